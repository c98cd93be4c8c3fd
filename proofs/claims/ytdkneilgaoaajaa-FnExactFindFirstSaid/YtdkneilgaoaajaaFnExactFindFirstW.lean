/- FnExactFindFirst answers true: the walk. -/
import Derived.Test.YtdkneilgaoaajaaTxt
import Derived.Test.YtdkneilgaoaajaaEqf
import Derived.Deep.RegionHeld3
namespace Go.Proofs.Ytdkneilgaoaajaa.fnExactFindFirst
open Go.RowKit
set_option maxRecDepth 100000

set_option maxHeartbeats 2000000 in
theorem walk (w : World) (vn0 ve0 : Value) (D0 : DfaD) (h0 : DfaR (fun _ => True) w vn0 ve0 D0) (s1 : ByteArray) (hs1 : s1.size ≤ maxLen) (i2 : Int) (hi2 : -9223372036854775808 ≤ i2 ∧ i2 ≤ 9223372036854775807) :
    Calls Try.prog 13 #[.agg #[vn0, ve0], .string s1, .int .i64 i2] w (Yes w) := by
  obtain ⟨a0, c0, b0, d0, rfl, rfl, hn0, hm0⟩ := h0.shapes
  obtain ⟨W, hW⟩ : ∃ W, W = w.alloc (.cells #[.slice a0 D0.1.length c0, .slice b0 D0.2.length d0] 49) := ⟨_, rfl⟩
  have HB0 : Hid (Below w.heap.size w W) := by rw [hW]; exact (Below.refl _ _).alloc (Nat.le_refl _) _
  have K0 : Hid (W.heap[w.heap.size]? = some (.cells #[.slice a0 D0.1.length c0, .slice b0 D0.2.length d0] 49 (0, 0))) := by rw [hW]; exact blkNew _ _ (by simp)
  have H0 := Lib.hid (h0.stay (kpB HB0.out)); clear h0
  have hsm1 : s1.size ≤ 9223372036854775807 := by unfold maxLen at hs1; exact hs1
  have HS1 := Lib.hid hs1; clear hs1
  have HW := Lib.hid hW; clear hW
  obtain ⟨q0a, Q0a⟩ : ∃ q : Int, Hid (((ffs D0 s1 i2).getD (0, 0)).1 = q) := ⟨_, rfl⟩
  obtain ⟨q0b, Q0b⟩ : ∃ q : Int, Hid (((ffs D0 s1 i2).getD (0, 0)).2 = q) := ⟨_, rfl⟩
  obtain ⟨q1a, Q1a⟩ : ∃ q : Bool, Hid ((ffs D0 s1 i2).isSome = q) := ⟨_, rfl⟩
  by_cases h20_1 : s1.size ≤ 1048576
  rotate_left
  · go_enter Try.func13, Try.ntmps13
    go_wp2
    go_ret
    exact ⟨rfl, by rw [← HW.out]; exact HB0.out⟩
  go_enter Try.func13, Try.ntmps13
  have HB : Hid (Below W.heap.size W W) := Below.refl _ _
  go_wp2_with fail
  rw [← HW.out]
  refine (szDfa_c _ _ D0 _ _ (H0.out.stay (kpB HB.out)) (by omega) (by omega)).mono ?_
  rintro e w1 ⟨m0, rfl, hb, hm⟩
  replace HB := Lib.hid (HB.out.trans (hb.mono HB.out.size))
  replace K0 := Lib.hid (blkBel hb K0.out)
  clear hb
  obtain ⟨K0_0, K0_1, K0_2, K0_3⟩ := blk2 K0.out
  have K0_l : w.heap.size < w1.heap.size := (Array.getElem?_eq_some_iff.1 K0.out).1
  rcases hm.out with rfl | ⟨hm0_0, hm1_0, hsml0⟩
  · clear hm
    go_wp2
    go_ret
    exact ⟨rfl, HB0.out.trans (HB.out.mono HB0.out.size)⟩
  have HSM0 := Lib.hid hsml0; clear hsml0 hm
  clear K0_0 K0_1 K0_2 K0_3 K0_l
  obtain ⟨K0_0, K0_1, K0_2, K0_3⟩ := blk2 K0.out
  have K0_l : w.heap.size < w1.heap.size := (Array.getElem?_eq_some_iff.1 K0.out).1
  go_wp2_with fail
  clear K0_0 K0_1 K0_2 K0_3 K0_l
  refine (toDfa_c _ _ D0 _ (H0.out.stay (kpB HB.out)) HSM0.out).mono ?_
  rintro e w2 ⟨yn0, ye0, rfl, hb, hd⟩
  replace HB := Lib.hid (HB.out.trans (hb.mono HB.out.size))
  replace K0 := Lib.hid (blkBel hb K0.out)
  clear hb
  have HXy0 := Lib.hid hd.out.rd; clear hd
  obtain ⟨ay0, cy0, by0, dy0, rfl, rfl, _, _⟩ := HXy0.out.shapes
  obtain ⟨K0_0, K0_1, K0_2, K0_3⟩ := blk2 K0.out
  have K0_l : w.heap.size < w2.heap.size := (Array.getElem?_eq_some_iff.1 K0.out).1
  go_wp2_with fail
  clear K0_0 K0_1 K0_2 K0_3 K0_l
  refine (sFindFirst_c _ _ D0 s1 i2 _ HXy0.out HS1.out).mono ?_
  rintro e w3 ⟨rfl, hb⟩
  rw [Q0a.out, Q0b.out, Q1a.out]
  replace HB := Lib.hid (HB.out.trans (hb.mono HB.out.size))
  replace K0 := Lib.hid (blkBel hb K0.out)
  replace HXy0 := Lib.hid (HXy0.out.stay (kpB hb))
  clear hb
  clear HXy0
  obtain ⟨K0_0, K0_1, K0_2, K0_3⟩ := blk2 K0.out
  have K0_l : w.heap.size < w3.heap.size := (Array.getElem?_eq_some_iff.1 K0.out).1
  obtain ⟨w4, hw4⟩ : ∃ w4, w4 = w3.alloc (.cells #[.int .i64 q0a, .int .i64 q0b] 75) := ⟨_, rfl⟩
  have hbw4 : Below w3.heap.size w3 w4 := by rw [hw4]; exact (Below.refl _ _).alloc (Nat.le_refl _) _
  have KRw0 : Hid (w4.heap[w3.heap.size]? = some (.cells #[.int .i64 q0a, .int .i64 q0b] 75 (0, 0))) := by rw [hw4]; exact blkNew _ _ rfl
  have Hw4 := Lib.hid hw4; clear hw4
  go_wp2_with fail
  rw [← Hw4.out]
  clear K0_0 K0_1 K0_2 K0_3 K0_l
  replace HB := Lib.hid (HB.out.trans (hbw4.mono HB.out.size))
  replace K0 := Lib.hid (blkBel hbw4 K0.out)
  clear hbw4
  refine (toDfa_c _ _ D0 _ (H0.out.stay (kpB HB.out)) HSM0.out).mono ?_
  rintro e w5 ⟨xn0, xe0, rfl, hb, hd⟩
  replace HB := Lib.hid (HB.out.trans (hb.mono HB.out.size))
  replace K0 := Lib.hid (blkBel hb K0.out)
  replace KRw0 := Lib.hid (blkBel hb KRw0.out)
  clear hb
  have HXx0 := Lib.hid hd.out.rd; clear hd
  obtain ⟨ax0, cx0, bx0, dx0, rfl, rfl, _, _⟩ := HXx0.out.shapes
  obtain ⟨K0_0, K0_1, K0_2, K0_3⟩ := blk2 K0.out
  have K0_l : w.heap.size < w5.heap.size := (Array.getElem?_eq_some_iff.1 K0.out).1
  obtain ⟨KRw0_0, KRw0_1, KRw0_2, KRw0_3⟩ := blk2 KRw0.out
  have KRw0_l : w3.heap.size < w5.heap.size := (Array.getElem?_eq_some_iff.1 KRw0.out).1
  obtain ⟨w6, hw6⟩ : ∃ w6, w6 = w5.alloc (.cells #[.slice ax0 D0.1.length cx0, .slice bx0 D0.2.length dx0] 52) := ⟨_, rfl⟩
  have hbw6 : Below w5.heap.size w5 w6 := by rw [hw6]; exact (Below.refl _ _).alloc (Nat.le_refl _) _
  have KX0 : Hid (w6.heap[w5.heap.size]? = some (.cells #[.slice ax0 D0.1.length cx0, .slice bx0 D0.2.length dx0] 52 (0, 0))) := by rw [hw6]; exact blkNew _ _ rfl
  have Hw6 := Lib.hid hw6; clear hw6
  go_wp2_with fail
  rw [← Hw6.out]
  clear K0_0 K0_1 K0_2 K0_3 K0_l KRw0_0 KRw0_1 KRw0_2 KRw0_3 KRw0_l
  replace HB := Lib.hid (HB.out.trans (hbw6.mono HB.out.size))
  replace K0 := Lib.hid (blkBel hbw6 K0.out)
  replace KRw0 := Lib.hid (blkBel hbw6 KRw0.out)
  replace HXx0 := Lib.hid (HXx0.out.stay (kpB hbw6))
  clear hbw6
  refine (FindFirst_c _ _ D0 s1 i2 _ HXx0.out HS1.out).mono ?_
  rintro e w7 ⟨rfl, hb⟩
  rw [Q0a.out, Q0b.out, Q1a.out]
  replace HB := Lib.hid (HB.out.trans (hb.mono HB.out.size))
  replace K0 := Lib.hid (blkBel hb K0.out)
  replace KRw0 := Lib.hid (blkBel hb KRw0.out)
  replace HXx0 := Lib.hid (HXx0.out.stay (kpB hb))
  replace KX0 := Lib.hid (blkBel hb KX0.out)
  clear hb
  obtain ⟨K0_0, K0_1, K0_2, K0_3⟩ := blk2 K0.out
  have K0_l : w.heap.size < w7.heap.size := (Array.getElem?_eq_some_iff.1 K0.out).1
  obtain ⟨KRw0_0, KRw0_1, KRw0_2, KRw0_3⟩ := blk2 KRw0.out
  have KRw0_l : w3.heap.size < w7.heap.size := (Array.getElem?_eq_some_iff.1 KRw0.out).1
  obtain ⟨KX0_0, KX0_1, KX0_2, KX0_3⟩ := blk2 KX0.out
  have KX0_l : w5.heap.size < w7.heap.size := (Array.getElem?_eq_some_iff.1 KX0.out).1
  obtain ⟨w8, hw8⟩ : ∃ w8, w8 = w7.alloc (.cells #[.int .i64 q0a, .int .i64 q0b] 75) := ⟨_, rfl⟩
  have hbw8 : Below w7.heap.size w7 w8 := by rw [hw8]; exact (Below.refl _ _).alloc (Nat.le_refl _) _
  have KRg0 : Hid (w8.heap[w7.heap.size]? = some (.cells #[.int .i64 q0a, .int .i64 q0b] 75 (0, 0))) := by rw [hw8]; exact blkNew _ _ rfl
  have Hw8 := Lib.hid hw8; clear hw8
  have hne1 := bneSelf q1a
  go_wp2_with fail
  rw [← Hw8.out]
  clear K0_0 K0_1 K0_2 K0_3 K0_l KRw0_0 KRw0_1 KRw0_2 KRw0_3 KRw0_l KX0_0 KX0_1 KX0_2 KX0_3 KX0_l
  replace HB := Lib.hid (HB.out.trans (hbw8.mono HB.out.size))
  replace K0 := Lib.hid (blkBel hbw8 K0.out)
  replace KRw0 := Lib.hid (blkBel hbw8 KRw0.out)
  replace HXx0 := Lib.hid (HXx0.out.stay (kpB hbw8))
  replace KX0 := Lib.hid (blkBel hbw8 KX0.out)
  clear hbw8
  refine (eqSpan_c q0a q0b _).mono ?_
  rintro e w9 ⟨bq, rfl, hb, hq⟩
  cases bq
  · exact (hbF hq trivial).elim
  clear hq
  replace HB := Lib.hid (HB.out.trans (hb.mono HB.out.size))
  replace K0 := Lib.hid (blkBel hb K0.out)
  replace KRw0 := Lib.hid (blkBel hb KRw0.out)
  replace HXx0 := Lib.hid (HXx0.out.stay (kpB hb))
  replace KX0 := Lib.hid (blkBel hb KX0.out)
  replace KRg0 := Lib.hid (blkBel hb KRg0.out)
  clear hb
  clear KRw0
  clear KRg0
  obtain ⟨K0_0, K0_1, K0_2, K0_3⟩ := blk2 K0.out
  have K0_l : w.heap.size < w9.heap.size := (Array.getElem?_eq_some_iff.1 K0.out).1
  obtain ⟨KX0_0, KX0_1, KX0_2, KX0_3⟩ := blk2 KX0.out
  have KX0_l : w5.heap.size < w9.heap.size := (Array.getElem?_eq_some_iff.1 KX0.out).1
  go_wp2_with fail
  have HBD : Hid (Below W.heap.size W w9.drew) := HB.out.drew
  have HXD := Lib.hid (HXx0.out.stay (kpB ((Below.refl w9.heap.size w9).drew)))
  go_region_held3 (fun w' => w'.cell? ⟨w.heap.size, 0, none⟩ = some (.slice a0 D0.1.length c0) ∧ w'.cell? ⟨w.heap.size, 1, none⟩ = some (.slice b0 D0.2.length d0) ∧ w'.cell? ⟨w5.heap.size, 0, none⟩ = some (.slice ax0 D0.1.length cx0) ∧ w'.cell? ⟨w5.heap.size, 1, none⟩ = some (.slice bx0 D0.2.length dx0))
    (first | exact ⟨K0_0, K0_1, KX0_0, KX0_1⟩ | exact ⟨(blk2 (blkBel hb10 K0.out)).1, (blk2 (blkBel hb10 K0.out)).2.1, (blk2 (blkBel hb10 KX0.out)).1, (blk2 (blkBel hb10 KX0.out)).2.1⟩ | exact ⟨(blk2 (blkBel hb11 (blkBel hb10 K0.out))).1, (blk2 (blkBel hb11 (blkBel hb10 K0.out))).2.1, (blk2 (blkBel hb11 (blkBel hb10 KX0.out))).1, (blk2 (blkBel hb11 (blkBel hb10 KX0.out))).2.1⟩)
    (first | (go_at_call 39; refine (toDfa_c _ _ D0 _ (H0.out.stay (kpB HBD.out)) HSM0.out).mono ?_; rintro e v10 ⟨y1, y2, rfl, hb10, hd10⟩) | (go_at_call 41; refine (eqDfa_c _ _ _ _ D0 _ (HXD.out.stay (kpB hb10)) hd10.out.rd).mono ?_; rintro e v11 ⟨bq, rfl, hb11, hq⟩; cases bq; exact (hbF hq trivial).elim))
  clear K0_0 K0_1 K0_2 K0_3 K0_l KX0_0 KX0_1 KX0_2 KX0_3 KX0_l
  clear HXD hd10
  have hb : Below w9.heap.size w9 v11 := ((Below.refl w9.heap.size w9).drew).trans (hb10.trans (hb11.mono hb10.size))
  clear hb10 hb11 HBD
  replace HB := Lib.hid (HB.out.trans (hb.mono HB.out.size))
  replace K0 := Lib.hid (blkBel hb K0.out)
  replace HXx0 := Lib.hid (HXx0.out.stay (kpB hb))
  replace KX0 := Lib.hid (blkBel hb KX0.out)
  clear hb
  skip
  obtain ⟨K0_0, K0_1, K0_2, K0_3⟩ := blk2 K0.out
  have K0_l : w.heap.size < v11.heap.size := (Array.getElem?_eq_some_iff.1 K0.out).1
  obtain ⟨KX0_0, KX0_1, KX0_2, KX0_3⟩ := blk2 KX0.out
  have KX0_l : w5.heap.size < v11.heap.size := (Array.getElem?_eq_some_iff.1 KX0.out).1
  clear K0_0 K0_1 K0_2 K0_3 K0_l KX0_0 KX0_1 KX0_2 KX0_3 KX0_l
  have hfin := HB0.out.trans (HB.out.mono HB0.out.size)
  go_wp2
  go_ret
  exact ⟨rfl, hfin⟩
end Go.Proofs.Ytdkneilgaoaajaa.fnExactFindFirst
