/- FnExactSameLanguage answers true: the walk. -/
import Derived.Test.YthdbgpdidolmaaaFwr
import Derived.Test.YthdbgpdidolmaaaEqf
import Derived.Test.YthdbgpdidolmaaaFa4
import Derived.Deep.RegionHeld3
import Derived.Deep.DeepCutAuto
namespace Go.Proofs.Ythdbgpdidolmaaa.fnExactSameLanguage
open Go.RowKit
set_option maxRecDepth 100000

set_option maxHeartbeats 4000000 in
theorem walk (w : World) (vn0 ve0 : Value) (D0 : DfaD) (h0 : DfaR (fun _ => True) w vn0 ve0 D0) (vn1 ve1 : Value) (D1 : DfaD) (h1 : DfaR (fun _ => True) w vn1 ve1 D1) :
    Calls Try.prog 8 #[.agg #[vn0, ve0], .agg #[vn1, ve1]] w (Yes w) := by
  obtain ⟨a0, c0, b0, d0, rfl, rfl, hn0, hm0⟩ := h0.shapes
  obtain ⟨a1, c1, b1, d1, rfl, rfl, hn1, hm1⟩ := h1.shapes
  obtain ⟨W, hW⟩ : ∃ W, W = (w.alloc (.cells #[.slice a0 D0.1.length c0, .slice b0 D0.2.length d0] 32)).alloc (.cells #[.slice a1 D1.1.length c1, .slice b1 D1.2.length d1] 32) := ⟨_, rfl⟩
  have HB0 : Hid (Below w.heap.size w W) := by rw [hW]; exact ((Below.refl _ _).alloc (Nat.le_refl _) _).alloc (by simp) _
  have K0W : Hid (W.heap[w.heap.size]? = some (.cells #[.slice a0 D0.1.length c0, .slice b0 D0.2.length d0] 32 (0, 0))) := by rw [hW]; exact blkOld (blkNew _ _ rfl)
  have K1W : Hid (W.heap[w.heap.size + 1]? = some (.cells #[.slice a1 D1.1.length c1, .slice b1 D1.2.length d1] 32 (0, 0))) := by rw [hW]; exact blkNew _ _ (by simp)
  have hWw := (Array.getElem?_eq_some_iff.1 K1W.out).1
  have H0 := Lib.hid (h0.stay (kpB HB0.out)); clear h0
  have H1 := Lib.hid (h1.stay (kpB HB0.out)); clear h1
  have HW := Lib.hid hW; clear hW
  have keepK : ∀ v : World, Hid (Below W.heap.size W v) → Hid (v.cell? ⟨w.heap.size, 0, none⟩ = some (.slice a0 D0.1.length c0) ∧ v.cell? ⟨w.heap.size, 1, none⟩ = some (.slice b0 D0.2.length d0) ∧ v.cell? ⟨w.heap.size + 1, 0, none⟩ = some (.slice a1 D1.1.length c1) ∧ v.cell? ⟨w.heap.size + 1, 1, none⟩ = some (.slice b1 D1.2.length d1)) := fun v hv => by
    obtain ⟨x0, x1, _, _⟩ := blk2 (blkBel hv.out K0W.out)
    obtain ⟨y0, y1, _, _⟩ := blk2 (blkBel hv.out K1W.out)
    exact Lib.hid ⟨x0, x1, y0, y1⟩
  have KeepK := Lib.hid keepK; clear keepK
  obtain ⟨q0, Q0⟩ : ∃ q : Bool, Hid (smB D0 D1 = q) := ⟨_, rfl⟩
  go_enter Try.func8, Try.ntmps8
  have HB : Hid (Below W.heap.size W W) := Below.refl _ _
  go_wp2_with fail
  rw [← HW.out]
  refine (szDfa_c _ _ D0 _ _ (H0.out.stay (kpB HB.out)) (by omega) (by omega)).mono ?_
  rintro e w1 ⟨m0, rfl, hb, hm⟩
  replace HB := Lib.hid (HB.out.trans (hb.mono HB.out.size))
  clear hb
  obtain ⟨k00, k01, k10, k11⟩ := (KeepK.out _ HB.out).out
  have kl1 : w.heap.size + 1 < w1.heap.size := Nat.lt_of_lt_of_le hWw HB.out.size
  have kl0 : w.heap.size < w1.heap.size := by omega
  rcases hm.out with rfl | ⟨hm0_0, hm1_0, hsml0⟩
  · clear hm
    go_wp2
    go_ret
    exact ⟨rfl, HB0.out.trans (HB.out.mono HB0.out.size)⟩
  have HSM0 := Lib.hid hsml0; clear hsml0 hm
  clear k00 k01 k10 k11 kl0 kl1
  obtain ⟨k00, k01, k10, k11⟩ := (KeepK.out _ HB.out).out
  have kl1 : w.heap.size + 1 < w1.heap.size := Nat.lt_of_lt_of_le hWw HB.out.size
  have kl0 : w.heap.size < w1.heap.size := by omega
  go_wp2_with fail
  clear k00 k01 k10 k11 kl0 kl1
  refine (szDfa_c _ _ D1 _ _ (H1.out.stay (kpB HB.out)) (by omega) (by omega)).mono ?_
  rintro e w2 ⟨m1, rfl, hb, hm⟩
  replace HB := Lib.hid (HB.out.trans (hb.mono HB.out.size))
  clear hb
  obtain ⟨k00, k01, k10, k11⟩ := (KeepK.out _ HB.out).out
  have kl1 : w.heap.size + 1 < w2.heap.size := Nat.lt_of_lt_of_le hWw HB.out.size
  have kl0 : w.heap.size < w2.heap.size := by omega
  rcases hm.out with rfl | ⟨hm0_1, hm1_1, hsml1⟩
  · clear hm
    go_wp2
    go_ret
    exact ⟨rfl, HB0.out.trans (HB.out.mono HB0.out.size)⟩
  have HSM1 := Lib.hid hsml1; clear hsml1 hm
  clear k00 k01 k10 k11 kl0 kl1
  obtain ⟨k00, k01, k10, k11⟩ := (KeepK.out _ HB.out).out
  have kl1 : w.heap.size + 1 < w2.heap.size := Nat.lt_of_lt_of_le hWw HB.out.size
  have kl0 : w.heap.size < w2.heap.size := by omega
  go_wp2_with fail
  go_cut [6] (fun s6 wx => s6 = .bool q0 ∧ Hid (Below w2.heap.size w2 wx))
  case first =>
    have hbs : Hid (Below w2.heap.size w2 w2.drew) := (Below.refl _ _).drew
    go_region_held3 (fun w' => w'.cell? ⟨w.heap.size, 0, none⟩ = some (.slice a0 D0.1.length c0) ∧ w'.cell? ⟨w.heap.size, 1, none⟩ = some (.slice b0 D0.2.length d0) ∧ w'.cell? ⟨w.heap.size + 1, 0, none⟩ = some (.slice a1 D1.1.length c1) ∧ w'.cell? ⟨w.heap.size + 1, 1, none⟩ = some (.slice b1 D1.2.length d1))
      (exact (KeepK.out _ (Lib.hid (HB.out.trans (hbs.out.mono HB.out.size)))).out)
      (first | (go_at_call_of 22 (Value.agg #[.slice a0 D0.1.length c0, .slice b0 D0.2.length d0]); refine (toDfa_c _ _ D0 _ (H0.out.stay (kpB (HB.out.trans (hbs.out.mono HB.out.size)))) HSM0.out).mono ?_; rintro e v0 ⟨yn0, ye0, rfl, hb, hd⟩; replace hbs := Lib.hid (hbs.out.trans (hb.mono hbs.out.size)); (try (revert HXy1; intro HXy1; replace HXy1 := Lib.hid (HXy1.out.stay (kpB hb)))); have HXy0 := Lib.hid hd.out.rd; clear hb hd) | (go_at_call_of 22 (Value.agg #[.slice a1 D1.1.length c1, .slice b1 D1.2.length d1]); refine (toDfa_c _ _ D1 _ (H1.out.stay (kpB (HB.out.trans (hbs.out.mono HB.out.size)))) HSM1.out).mono ?_; rintro e v1 ⟨yn1, ye1, rfl, hb, hd⟩; replace hbs := Lib.hid (hbs.out.trans (hb.mono hbs.out.size)); (try (revert HXy0; intro HXy0; replace HXy0 := Lib.hid (HXy0.out.stay (kpB hb)))); have HXy1 := Lib.hid hd.out.rd; clear hb hd) | (go_at_call 31; refine (sSameLanguage_c _ _ _ _ D0 D1 _ HXy0.out HXy1.out).mono ?_; rintro e v9 ⟨rfl, hb⟩; rw [Q0.out]; replace hbs := Lib.hid (hbs.out.trans (hb.mono hbs.out.size))))
    all_goals
      go_wp2_with fail
      go_meet
      exact ⟨rfl, hbs⟩
  case rest =>
  obtain ⟨rfl, hbx⟩ := hcut
  obtain ⟨wc3, hw3⟩ : ∃ x, x = wc := ⟨_, rfl⟩
  subst hw3
  clear k00 k01 k10 k11 kl0 kl1
  replace HB := Lib.hid (HB.out.trans (hbx.out.mono HB.out.size))
  clear hbx
  obtain ⟨k00, k01, k10, k11⟩ := (KeepK.out _ HB.out).out
  have kl1 : w.heap.size + 1 < wc3.heap.size := Nat.lt_of_lt_of_le hWw HB.out.size
  have kl0 : w.heap.size < wc3.heap.size := by omega
  -- copy 0
  go_wp2_with fail
  clear k00 k01 k10 k11 kl0 kl1
  refine (toDfa_c _ _ D0 _ (H0.out.stay (kpB HB.out)) HSM0.out).mono ?_
  rintro e w3 ⟨xn0, xe0, rfl, hb, hd⟩
  replace HB := Lib.hid (HB.out.trans (hb.mono HB.out.size))
  clear hb
  have HXx0 := Lib.hid hd.out; clear hd
  obtain ⟨ax0, cx0, bx0, dx0, rfl, rfl, _, _⟩ := HXx0.out.rd.shapes
  obtain ⟨k00, k01, k10, k11⟩ := (KeepK.out _ HB.out).out
  have kl1 : w.heap.size + 1 < w3.heap.size := Nat.lt_of_lt_of_le hWw HB.out.size
  have kl0 : w.heap.size < w3.heap.size := by omega
  obtain ⟨w4, hw4⟩ : ∃ w4, w4 = w3.alloc (.cells #[.slice ax0 D0.1.length cx0, .slice bx0 D0.2.length dx0] 36) := ⟨_, rfl⟩
  have hbw4 : Below w3.heap.size w3 w4 := by rw [hw4]; exact (Below.refl _ _).alloc (Nat.le_refl _) _
  have KX0 : Hid (w4.heap[w3.heap.size]? = some (.cells #[.slice ax0 D0.1.length cx0, .slice bx0 D0.2.length dx0] 36 (0, 0))) := by rw [hw4]; exact blkNew _ _ rfl
  have Hw4 := Lib.hid hw4; clear hw4
  -- copy 1
  go_wp2_with fail
  rw [← Hw4.out]
  clear k00 k01 k10 k11 kl0 kl1
  replace HB := Lib.hid (HB.out.trans (hbw4.mono HB.out.size))
  replace HXx0 := Lib.hid (HXx0.out.stay (ksB hbw4))
  clear hbw4
  refine (toDfa_c _ _ D1 _ (H1.out.stay (kpB HB.out)) HSM1.out).mono ?_
  rintro e w5 ⟨xn1, xe1, rfl, hb, hd⟩
  replace HB := Lib.hid (HB.out.trans (hb.mono HB.out.size))
  replace HXx0 := Lib.hid (HXx0.out.stay (ksB hb))
  replace KX0 := Lib.hid (blkBel hb KX0.out)
  clear hb
  have HXx1 := Lib.hid hd.out; clear hd
  obtain ⟨ax1, cx1, bx1, dx1, rfl, rfl, _, _⟩ := HXx1.out.rd.shapes
  obtain ⟨k00, k01, k10, k11⟩ := (KeepK.out _ HB.out).out
  have kl1 : w.heap.size + 1 < w5.heap.size := Nat.lt_of_lt_of_le hWw HB.out.size
  have kl0 : w.heap.size < w5.heap.size := by omega
  obtain ⟨KX0_0, KX0_1, KX0_2, KX0_3⟩ := blk2 KX0.out
  have KX0_l := (Array.getElem?_eq_some_iff.1 KX0.out).1
  obtain ⟨w6, hw6⟩ : ∃ w6, w6 = w5.alloc (.cells #[.slice ax1 D1.1.length cx1, .slice bx1 D1.2.length dx1] 36) := ⟨_, rfl⟩
  have hbw6 : Below w5.heap.size w5 w6 := by rw [hw6]; exact (Below.refl _ _).alloc (Nat.le_refl _) _
  have KX1 : Hid (w6.heap[w5.heap.size]? = some (.cells #[.slice ax1 D1.1.length cx1, .slice bx1 D1.2.length dx1] 36 (0, 0))) := by rw [hw6]; exact blkNew _ _ rfl
  have Hw6 := Lib.hid hw6; clear hw6
  go_wp2_with fail
  rw [← Hw6.out]
  clear k00 k01 k10 k11 kl0 kl1
  clear KX0_0 KX0_1 KX0_2 KX0_3 KX0_l
  replace HB := Lib.hid (HB.out.trans (hbw6.mono HB.out.size))
  replace HXx0 := Lib.hid (HXx0.out.stay (ksB hbw6))
  replace KX0 := Lib.hid (blkBel hbw6 KX0.out)
  replace HXx1 := Lib.hid (HXx1.out.stay (ksB hbw6))
  clear hbw6
  refine (SameLanguage_c _ _ _ _ D0 D1 _ HXx0.out.rd HXx1.out.rd).mono ?_
  rintro e w7 ⟨rfl, hb⟩
  rw [Q0.out]
  replace HB := Lib.hid (HB.out.trans (hb.mono HB.out.size))
  replace HXx0 := Lib.hid (HXx0.out.stay (ksB hb))
  replace KX0 := Lib.hid (blkBel hb KX0.out)
  replace HXx1 := Lib.hid (HXx1.out.stay (ksB hb))
  replace KX1 := Lib.hid (blkBel hb KX1.out)
  clear hb
  obtain ⟨k00, k01, k10, k11⟩ := (KeepK.out _ HB.out).out
  have kl1 : w.heap.size + 1 < w7.heap.size := Nat.lt_of_lt_of_le hWw HB.out.size
  have kl0 : w.heap.size < w7.heap.size := by omega
  obtain ⟨KX0_0, KX0_1, KX0_2, KX0_3⟩ := blk2 KX0.out
  have KX0_l := (Array.getElem?_eq_some_iff.1 KX0.out).1
  obtain ⟨KX1_0, KX1_1, KX1_2, KX1_3⟩ := blk2 KX1.out
  have KX1_l := (Array.getElem?_eq_some_iff.1 KX1.out).1
  have hne0 := bneSelf q0
  go_wp2_with fail
  have HBD : Hid (Below W.heap.size W w7.drew) := HB.out.drew
  have HXD := Lib.hid (HXx0.out.rd.stay (kpB ((Below.refl w7.heap.size w7).drew)))
  go_region_held3 (fun w' => w'.cell? ⟨w.heap.size, 0, none⟩ = some (.slice a0 D0.1.length c0) ∧ w'.cell? ⟨w.heap.size, 1, none⟩ = some (.slice b0 D0.2.length d0) ∧ w'.cell? ⟨w3.heap.size, 0, none⟩ = some (.slice ax0 D0.1.length cx0) ∧ w'.cell? ⟨w3.heap.size, 1, none⟩ = some (.slice bx0 D0.2.length dx0))
    (first | exact ⟨k00, k01, KX0_0, KX0_1⟩ | exact ⟨(KeepK.out _ (Lib.hid (HBD.out.trans (hb10.mono HBD.out.size)))).out.1, (KeepK.out _ (Lib.hid (HBD.out.trans (hb10.mono HBD.out.size)))).out.2.1, (blk2 (blkBel hb10 KX0.out)).1, (blk2 (blkBel hb10 KX0.out)).2.1⟩ | exact ⟨(KeepK.out _ (Lib.hid (HBD.out.trans ((hb10.trans (hb11.mono hb10.size)).mono HBD.out.size)))).out.1, (KeepK.out _ (Lib.hid (HBD.out.trans ((hb10.trans (hb11.mono hb10.size)).mono HBD.out.size)))).out.2.1, (blk2 (blkBel hb11 (blkBel hb10 KX0.out))).1, (blk2 (blkBel hb11 (blkBel hb10 KX0.out))).2.1⟩)
    (first | (go_at_call 22; refine (toDfa_c _ _ D0 _ (H0.out.stay (kpB HBD.out)) HSM0.out).mono ?_; rintro e v100 ⟨y1, y2, rfl, hb10, hd10⟩) | (go_at_call 24; refine (eqDfa_c _ _ _ _ D0 _ (HXD.out.stay (kpB hb10)) hd10.out.rd).mono ?_; rintro e v110 ⟨bq, rfl, hb11, hq0⟩; cases bq; exact (hbF hq0 trivial).elim))
  clear k00 k01 k10 k11 kl0 kl1
  clear KX0_0 KX0_1 KX0_2 KX0_3 KX0_l
  clear KX1_0 KX1_1 KX1_2 KX1_3 KX1_l
  have hb : Below w7.heap.size w7 v110 := ((Below.refl w7.heap.size w7).drew).trans (hb10.trans (hb11.mono hb10.size))
  clear hb10 hb11 HBD HXD hd10
  replace HB := Lib.hid (HB.out.trans (hb.mono HB.out.size))
  replace HXx0 := Lib.hid (HXx0.out.stay (ksB hb))
  replace KX0 := Lib.hid (blkBel hb KX0.out)
  replace HXx1 := Lib.hid (HXx1.out.stay (ksB hb))
  replace KX1 := Lib.hid (blkBel hb KX1.out)
  clear hb
  obtain ⟨k00, k01, k10, k11⟩ := (KeepK.out _ HB.out).out
  have kl1 : w.heap.size + 1 < v110.heap.size := Nat.lt_of_lt_of_le hWw HB.out.size
  have kl0 : w.heap.size < v110.heap.size := by omega
  obtain ⟨KX0_0, KX0_1, KX0_2, KX0_3⟩ := blk2 KX0.out
  have KX0_l := (Array.getElem?_eq_some_iff.1 KX0.out).1
  obtain ⟨KX1_0, KX1_1, KX1_2, KX1_3⟩ := blk2 KX1.out
  have KX1_l := (Array.getElem?_eq_some_iff.1 KX1.out).1
  go_wp2_with fail
  have HBD : Hid (Below W.heap.size W v110.drew) := HB.out.drew
  have HXD := Lib.hid (HXx1.out.rd.stay (kpB ((Below.refl v110.heap.size v110).drew)))
  go_region_held3 (fun w' => w'.cell? ⟨w.heap.size + 1, 0, none⟩ = some (.slice a1 D1.1.length c1) ∧ w'.cell? ⟨w.heap.size + 1, 1, none⟩ = some (.slice b1 D1.2.length d1) ∧ w'.cell? ⟨w5.heap.size, 0, none⟩ = some (.slice ax1 D1.1.length cx1) ∧ w'.cell? ⟨w5.heap.size, 1, none⟩ = some (.slice bx1 D1.2.length dx1))
    (first | exact ⟨k10, k11, KX1_0, KX1_1⟩ | exact ⟨(KeepK.out _ (Lib.hid (HBD.out.trans (hb10.mono HBD.out.size)))).out.2.2.1, (KeepK.out _ (Lib.hid (HBD.out.trans (hb10.mono HBD.out.size)))).out.2.2.2, (blk2 (blkBel hb10 KX1.out)).1, (blk2 (blkBel hb10 KX1.out)).2.1⟩ | exact ⟨(KeepK.out _ (Lib.hid (HBD.out.trans ((hb10.trans (hb11.mono hb10.size)).mono HBD.out.size)))).out.2.2.1, (KeepK.out _ (Lib.hid (HBD.out.trans ((hb10.trans (hb11.mono hb10.size)).mono HBD.out.size)))).out.2.2.2, (blk2 (blkBel hb11 (blkBel hb10 KX1.out))).1, (blk2 (blkBel hb11 (blkBel hb10 KX1.out))).2.1⟩)
    (first | (go_at_call 22; refine (toDfa_c _ _ D1 _ (H1.out.stay (kpB HBD.out)) HSM1.out).mono ?_; rintro e v101 ⟨y1, y2, rfl, hb10, hd10⟩) | (go_at_call 24; refine (eqDfa_c _ _ _ _ D1 _ (HXD.out.stay (kpB hb10)) hd10.out.rd).mono ?_; rintro e v111 ⟨bq, rfl, hb11, hq0⟩; cases bq; exact (hbF hq0 trivial).elim))
  clear k00 k01 k10 k11 kl0 kl1
  clear KX0_0 KX0_1 KX0_2 KX0_3 KX0_l
  clear KX1_0 KX1_1 KX1_2 KX1_3 KX1_l
  have hb : Below v110.heap.size v110 v111 := ((Below.refl v110.heap.size v110).drew).trans (hb10.trans (hb11.mono hb10.size))
  clear hb10 hb11 HBD HXD hd10
  replace HB := Lib.hid (HB.out.trans (hb.mono HB.out.size))
  replace HXx0 := Lib.hid (HXx0.out.stay (ksB hb))
  replace KX0 := Lib.hid (blkBel hb KX0.out)
  replace HXx1 := Lib.hid (HXx1.out.stay (ksB hb))
  replace KX1 := Lib.hid (blkBel hb KX1.out)
  clear hb
  obtain ⟨k00, k01, k10, k11⟩ := (KeepK.out _ HB.out).out
  have kl1 : w.heap.size + 1 < v111.heap.size := Nat.lt_of_lt_of_le hWw HB.out.size
  have kl0 : w.heap.size < v111.heap.size := by omega
  obtain ⟨KX0_0, KX0_1, KX0_2, KX0_3⟩ := blk2 KX0.out
  have KX0_l := (Array.getElem?_eq_some_iff.1 KX0.out).1
  obtain ⟨KX1_0, KX1_1, KX1_2, KX1_3⟩ := blk2 KX1.out
  have KX1_l := (Array.getElem?_eq_some_iff.1 KX1.out).1
  clear k00 k01 k10 k11 kl0 kl1
  clear KX0_0 KX0_1 KX0_2 KX0_3 KX0_l
  clear KX1_0 KX1_1 KX1_2 KX1_3 KX1_l
  have hfin := HB0.out.trans (HB.out.mono HB0.out.size)
  go_wp2
  go_ret
  exact ⟨rfl, hfin⟩
end Go.Proofs.Ythdbgpdidolmaaa.fnExactSameLanguage
