/- FnExactDfaLess answers true: the walk. -/
import Derived.Test.YtofamhgkiipagaaPq2
import Derived.Test.YtofamhgkiipagaaPsm
import Derived.Test.YtofamhgkiipagaaEqf
import Derived.Test.YtofamhgkiipagaaFa4
import Derived.Deep.RegionHeld3
import Derived.Deep.DeepCutAuto
namespace Go.Proofs.Ytofamhgkiipagaa.fnExactDfaLess
open Go.RowKit
set_option maxRecDepth 100000

set_option maxHeartbeats 4000000 in
theorem walk (w : World) (vn0 ve0 : Value) (D0 : DfaD) (h0 : DfaR (fun _ => True) w vn0 ve0 D0) (vn1 ve1 : Value) (D1 : DfaD) (h1 : DfaR (fun _ => True) w vn1 ve1 D1) :
    Calls Try.prog 14 #[.agg #[vn0, ve0], .agg #[vn1, ve1]] w (Yes w) := by
  obtain ⟨a0, c0, b0, d0, rfl, rfl, hn0, hm0⟩ := h0.shapes
  obtain ⟨a1, c1, b1, d1, rfl, rfl, hn1, hm1⟩ := h1.shapes
  obtain ⟨W, hW⟩ : ∃ W, W = (w.alloc (.cells #[.slice a0 D0.1.length c0, .slice b0 D0.2.length d0] 39)).alloc (.cells #[.slice a1 D1.1.length c1, .slice b1 D1.2.length d1] 39) := ⟨_, rfl⟩
  have HB0 : Hid (Below w.heap.size w W) := by rw [hW]; exact ((Below.refl _ _).alloc (Nat.le_refl _) _).alloc (by simp) _
  have K0W : Hid (W.heap[w.heap.size]? = some (.cells #[.slice a0 D0.1.length c0, .slice b0 D0.2.length d0] 39 (0, 0))) := by rw [hW]; exact blkOld (blkNew _ _ rfl)
  have K1W : Hid (W.heap[w.heap.size + 1]? = some (.cells #[.slice a1 D1.1.length c1, .slice b1 D1.2.length d1] 39 (0, 0))) := by rw [hW]; exact blkNew _ _ (by simp)
  have hWw := (Array.getElem?_eq_some_iff.1 K1W.out).1
  have H0 := Lib.hid (h0.stay (kpB HB0.out)); clear h0
  have H1 := Lib.hid (h1.stay (kpB HB0.out)); clear h1
  have HW := Lib.hid hW; clear hW
  have keepK : ∀ v : World, Hid (Below W.heap.size W v) → Hid (v.cell? ⟨w.heap.size, 0, none⟩ = some (.slice a0 D0.1.length c0) ∧ v.cell? ⟨w.heap.size, 1, none⟩ = some (.slice b0 D0.2.length d0) ∧ v.cell? ⟨w.heap.size + 1, 0, none⟩ = some (.slice a1 D1.1.length c1) ∧ v.cell? ⟨w.heap.size + 1, 1, none⟩ = some (.slice b1 D1.2.length d1)) := fun v hv => by
    obtain ⟨x0, x1, _, _⟩ := blk2 (blkBel hv.out K0W.out)
    obtain ⟨y0, y1, _, _⟩ := blk2 (blkBel hv.out K1W.out)
    exact Lib.hid ⟨x0, x1, y0, y1⟩
  have KeepK := Lib.hid keepK; clear keepK
  have HSmall : Hid (smallD (prD gLess D0 D1)) := prSmall _ _ _
  obtain ⟨q, hq⟩ : ∃ q : DfaD, Hid (prD gLess D0 D1 = q) := ⟨_, rfl⟩
  rw [hq.out] at HSmall
  obtain ⟨P, hP⟩ : ∃ P : Prop, Hid ((prP D0 D1) = P) := ⟨_, rfl⟩
  go_enter Try.func14, Try.ntmps14
  have HB : Hid (Below W.heap.size W W) := Below.refl _ _
  go_wp2_with fail
  rw [← HW.out]
  refine (szDfa_c _ _ D0 _ _ (H0.out.stay (kpB HB.out)) (by omega) (by omega)).mono ?_
  rintro e w1 ⟨m0, rfl, hb, hm⟩
  replace HB := Lib.hid (HB.out.trans (hb.mono HB.out.size))
  clear hb
  obtain ⟨k00, k01, k10, k11⟩ := (KeepK.out _ HB.out).out
  have kl1 : w.heap.size + 1 < w1.heap.size := Nat.lt_of_lt_of_le hWw HB.out.size
  have kl0 : w.heap.size < w1.heap.size := by omega
  rcases hm.out with rfl | ⟨hm0_0, hm1_0, hsml0⟩
  · clear hm
    go_wp2
    go_ret
    exact ⟨rfl, HB0.out.trans (HB.out.mono HB0.out.size)⟩
  have HSM0 := Lib.hid hsml0; clear hsml0 hm
  clear k00 k01 k10 k11 kl0 kl1
  obtain ⟨k00, k01, k10, k11⟩ := (KeepK.out _ HB.out).out
  have kl1 : w.heap.size + 1 < w1.heap.size := Nat.lt_of_lt_of_le hWw HB.out.size
  have kl0 : w.heap.size < w1.heap.size := by omega
  go_wp2_with fail
  clear k00 k01 k10 k11 kl0 kl1
  refine (szDfa_c _ _ D1 _ _ (H1.out.stay (kpB HB.out)) (by omega) (by omega)).mono ?_
  rintro e w2 ⟨m1, rfl, hb, hm⟩
  replace HB := Lib.hid (HB.out.trans (hb.mono HB.out.size))
  clear hb
  obtain ⟨k00, k01, k10, k11⟩ := (KeepK.out _ HB.out).out
  have kl1 : w.heap.size + 1 < w2.heap.size := Nat.lt_of_lt_of_le hWw HB.out.size
  have kl0 : w.heap.size < w2.heap.size := by omega
  rcases hm.out with rfl | ⟨hm0_1, hm1_1, hsml1⟩
  · clear hm
    go_wp2
    go_ret
    exact ⟨rfl, HB0.out.trans (HB.out.mono HB0.out.size)⟩
  have HSM1 := Lib.hid hsml1; clear hsml1 hm
  clear k00 k01 k10 k11 kl0 kl1
  obtain ⟨k00, k01, k10, k11⟩ := (KeepK.out _ HB.out).out
  have kl1 : w.heap.size + 1 < w2.heap.size := Nat.lt_of_lt_of_le hWw HB.out.size
  have kl0 : w.heap.size < w2.heap.size := by omega
  go_wp2_with fail
  go_cut [6, 7] (fun s1 s2 wx => ∃ (gw : Nat) (avw : Option Addr) (cvw : Nat) (bvw : Option Addr) (dvw : Nat) (zw : Bool), s1 = .pointer (some ⟨gw, 0, none⟩) ∧ s2 = .bool zw ∧ Hid (zw = true ↔ P) ∧ Hid (Below w2.heap.size w2 wx) ∧ Hid (w2.heap.size ≤ gw) ∧ Hid (wx.heap[gw]? = some (.cells #[.slice avw q.1.length cvw, .slice bvw q.2.length dvw] 42 (0, 0))) ∧ Hid (DfaW (fun b => w2.heap.size ≤ b ∧ b < wx.heap.size) wx (.slice avw q.1.length cvw) (.slice bvw q.2.length dvw) q))
  case first =>
    have hbs : Hid (Below w2.heap.size w2 w2.drew) := (Below.refl _ _).drew
    go_region_held3 (fun w' => w'.cell? ⟨w.heap.size, 0, none⟩ = some (.slice a0 D0.1.length c0) ∧ w'.cell? ⟨w.heap.size, 1, none⟩ = some (.slice b0 D0.2.length d0) ∧ w'.cell? ⟨w.heap.size + 1, 0, none⟩ = some (.slice a1 D1.1.length c1) ∧ w'.cell? ⟨w.heap.size + 1, 1, none⟩ = some (.slice b1 D1.2.length d1))
      (first | exact (KeepK.out _ (Lib.hid (HB.out.trans (hbs.out.mono HB.out.size)))).out | exact (KeepK.out _ (Lib.hid (HB.out.trans ((hbs.out.alloc hbs.out.size _).mono HB.out.size)))).out | exact (KeepK.out _ (Lib.hid ((HB.out.trans (hbs.out.mono HB.out.size)).setCell (by have := hKg.out; have := HB.out.size; (try dsimp only); omega) _))).out | exact (KeepK.out _ (Lib.hid (((HB.out.trans (hbs.out.mono HB.out.size)).setCell (by have := hKg.out; have := HB.out.size; (try dsimp only); omega) _).setCell (by have := hKg.out; have := HB.out.size; (try dsimp only); omega) _))).out)
      (first | (go_at_call_of 24 (Value.agg #[.slice a0 D0.1.length c0, .slice b0 D0.2.length d0]); refine (toDfa_c _ _ D0 _ (H0.out.stay (kpB (by first | exact HB.out.trans (hbs.out.mono HB.out.size) | exact HB.out.trans ((hbs.out.alloc hbs.out.size _).mono HB.out.size)))) HSM0.out).mono ?_; rintro e v0 ⟨yn0, ye0, rfl, hb, hd⟩; (first | (replace hbs := Lib.hid (hbs.out.trans (hb.mono hbs.out.size)); (try (revert Kb; intro Kb; replace Kb := Lib.hid (blkBel hb Kb.out)))) | (have Kb := Lib.hid (blkBel hb (blkNew _ _ rfl)); have hKg := Lib.hid hbs.out.size; replace hbs := Lib.hid ((hbs.out.alloc hbs.out.size _).trans (hb.mono (hbs.out.alloc hbs.out.size _).size)))); (try (revert HXy1; intro HXy1; first | replace HXy1 := Lib.hid (HXy1.out.stay (kpB hb)) | replace HXy1 := Lib.hid ((HXy1.out.stay kpAlloc).stay (kpB hb)))); have HXy0 := Lib.hid hd.out.rd; clear hb hd) | (go_at_call_of 24 (Value.agg #[.slice a1 D1.1.length c1, .slice b1 D1.2.length d1]); refine (toDfa_c _ _ D1 _ (H1.out.stay (kpB (by first | exact HB.out.trans (hbs.out.mono HB.out.size) | exact HB.out.trans ((hbs.out.alloc hbs.out.size _).mono HB.out.size)))) HSM1.out).mono ?_; rintro e v1 ⟨yn1, ye1, rfl, hb, hd⟩; (first | (replace hbs := Lib.hid (hbs.out.trans (hb.mono hbs.out.size)); (try (revert Kb; intro Kb; replace Kb := Lib.hid (blkBel hb Kb.out)))) | (have Kb := Lib.hid (blkBel hb (blkNew _ _ rfl)); have hKg := Lib.hid hbs.out.size; replace hbs := Lib.hid ((hbs.out.alloc hbs.out.size _).trans (hb.mono (hbs.out.alloc hbs.out.size _).size)))); (try (revert HXy0; intro HXy0; first | replace HXy0 := Lib.hid (HXy0.out.stay (kpB hb)) | replace HXy0 := Lib.hid ((HXy0.out.stay kpAlloc).stay (kpB hb)))); have HXy1 := Lib.hid hd.out.rd; clear hb hd) | (go_at_call 50; refine (sDfaLess_c _ _ _ _ D0 D1 _ (by first | exact HXy0.out | exact HXy0.out.stay kpAlloc) (by first | exact HXy1.out | exact HXy1.out.stay kpAlloc)).mono ?_; rintro e v9 ⟨q1, q2, qb, rfl, hb, hp, hd⟩; have hzr := hbs.out.size; rw [hq.out] at hd; rw [hP.out] at hp; obtain ⟨aa, cc, bb, dd, rfl, rfl, _, _⟩ := hd.out.rd.shapes; (try (revert Kb; intro Kb; have hgr := (Array.getElem?_eq_some_iff.1 Kb.out).1)); (first | (replace hbs := Lib.hid (hbs.out.trans (hb.mono hbs.out.size)); (try (revert Kb; intro Kb; replace Kb := Lib.hid (blkBel hb Kb.out)))) | (have Kb := Lib.hid (blkBel hb (blkNew _ _ rfl)); have hKg := Lib.hid hbs.out.size; replace hbs := Lib.hid ((hbs.out.alloc hbs.out.size _).trans (hb.mono (hbs.out.alloc hbs.out.size _).size)))); (try (revert Kb; intro Kb; obtain ⟨kb0, kb1, kb2, kb3⟩ := blk2 Kb.out; have hgl := (Array.getElem?_eq_some_iff.1 Kb.out).1)); have hzd := hb.size; (try simp only [World.size_alloc] at hzd)))
    all_goals
      have Hp := Lib.hid hp.out
      clear hp
      go_wp2_with fail
      go_meet
      have hdd : DfaW (fun b => w2.heap.size ≤ b ∧ b < v9.heap.size) v9 (.slice aa q.1.length cc) (.slice bb q.2.length dd) q := hd.out.mono (fun b h => ⟨by have h1 := h.1; (try simp only [World.size_alloc] at h1); omega, h.2⟩)
      first
        | (refine ⟨v9.heap.size, aa, cc, bb, dd, qb, rfl, rfl, Hp, hbs.out.alloc hbs.out.size _, hbs.out.size, blkNew _ _ rfl, ?_⟩
           exact (hdd.stay (ksB ((Below.refl _ _).alloc (Nat.le_refl _) _))).mono (fun b h => ⟨h.1, by simp; have := h.2; omega⟩))
        | (revert Kb; intro Kb
           refine ⟨_, aa, cc, bb, dd, qb, rfl, rfl, Hp, (hbs.out.setCell (by have := hKg.out; (try dsimp only); omega) _).setCell (by have := hKg.out; (try dsimp only); omega) _, hKg.out, heap_set (heap_set Kb.out 0 _) 1 _, ?_⟩
           exact dfaBoxed hd.out (by (try simp only [World.size_alloc]); omega) (by (try simp only [World.size_alloc]); omega))
  case rest =>
  obtain ⟨gw, avw, cvw, bvw, dvw, zw, rfl, rfl, HPw, hbx, hgw, KW, hvw⟩ := hcut
  obtain ⟨wc3, hw3⟩ : ∃ x, x = wc := ⟨_, rfl⟩
  subst hw3
  clear k00 k01 k10 k11 kl0 kl1
  replace HB := Lib.hid (HB.out.trans (hbx.out.mono HB.out.size))
  have HB3 : Hid (Below wc3.heap.size wc3 wc3) := Below.refl _ _
  have HW3 := Lib.hid ((DfaR.inHeap hvw.out.rd).mono (T := (· < wc3.heap.size)) (fun b h => h.2)); clear hvw hbx hgw
  obtain ⟨k00, k01, k10, k11⟩ := (KeepK.out _ HB.out).out
  have kl1 : w.heap.size + 1 < wc3.heap.size := Nat.lt_of_lt_of_le hWw HB.out.size
  have kl0 : w.heap.size < wc3.heap.size := by omega
  obtain ⟨KW_0, KW_1, KW_2, KW_3⟩ := blk2 KW.out
  have KW_l := (Array.getElem?_eq_some_iff.1 KW.out).1
  -- copy 0
  go_wp2_with fail
  clear k00 k01 k10 k11 kl0 kl1
  clear KW_0 KW_1 KW_2 KW_3 KW_l
  have hWl0 := HB.out.size
  have h3l0 := HB3.out.size
  have hwl0 := (Array.getElem?_eq_some_iff.1 KW.out).1
  refine (toDfa_c _ _ D0 _ (H0.out.stay (kpB HB.out)) HSM0.out).mono ?_
  rintro e w3 ⟨xn0, xe0, rfl, hb, hd⟩
  replace HB := Lib.hid (HB.out.trans (hb.mono HB.out.size))
  replace HB3 := Lib.hid (HB3.out.trans (hb.mono HB3.out.size))
  replace KW := Lib.hid (blkBel hb KW.out)
  have hzx0 := hb.size; clear hb
  have HXx0 := Lib.hid hd.out; clear hd
  obtain ⟨ax0, cx0, bx0, dx0, rfl, rfl, _, _⟩ := HXx0.out.rd.shapes
  obtain ⟨k00, k01, k10, k11⟩ := (KeepK.out _ HB.out).out
  have kl1 : w.heap.size + 1 < w3.heap.size := Nat.lt_of_lt_of_le hWw HB.out.size
  have kl0 : w.heap.size < w3.heap.size := by omega
  obtain ⟨KW_0, KW_1, KW_2, KW_3⟩ := blk2 KW.out
  have KW_l := (Array.getElem?_eq_some_iff.1 KW.out).1
  obtain ⟨w4, hw4⟩ : ∃ w4, w4 = w3.alloc (.cells #[.slice ax0 D0.1.length cx0, .slice bx0 D0.2.length dx0] 42) := ⟨_, rfl⟩
  have hbw4 : Below w3.heap.size w3 w4 := by rw [hw4]; exact (Below.refl _ _).alloc (Nat.le_refl _) _
  have KX0 : Hid (w4.heap[w3.heap.size]? = some (.cells #[.slice ax0 D0.1.length cx0, .slice bx0 D0.2.length dx0] 42 (0, 0))) := by rw [hw4]; exact blkNew _ _ rfl
  have Hw4 := Lib.hid hw4; clear hw4
  -- copy 1
  go_wp2_with fail
  rw [← Hw4.out]
  clear k00 k01 k10 k11 kl0 kl1
  clear KW_0 KW_1 KW_2 KW_3 KW_l
  replace HB := Lib.hid (HB.out.trans (hbw4.mono HB.out.size))
  replace HB3 := Lib.hid (HB3.out.trans (hbw4.mono HB3.out.size))
  replace KW := Lib.hid (blkBel hbw4 KW.out)
  replace HXx0 := Lib.hid (HXx0.out.stay (ksB hbw4))
  clear hbw4
  have hWl1 := HB.out.size
  have h3l1 := HB3.out.size
  have hwl1 := (Array.getElem?_eq_some_iff.1 KW.out).1
  have hxl1 := (Array.getElem?_eq_some_iff.1 KX0.out).1
  refine (toDfa_c _ _ D1 _ (H1.out.stay (kpB HB.out)) HSM1.out).mono ?_
  rintro e w5 ⟨xn1, xe1, rfl, hb, hd⟩
  replace HB := Lib.hid (HB.out.trans (hb.mono HB.out.size))
  replace HB3 := Lib.hid (HB3.out.trans (hb.mono HB3.out.size))
  replace KW := Lib.hid (blkBel hb KW.out)
  replace HXx0 := Lib.hid (HXx0.out.stay (ksB hb))
  replace KX0 := Lib.hid (blkBel hb KX0.out)
  have hzx1 := hb.size; clear hb
  have HXx1 := Lib.hid hd.out; clear hd
  obtain ⟨ax1, cx1, bx1, dx1, rfl, rfl, _, _⟩ := HXx1.out.rd.shapes
  obtain ⟨k00, k01, k10, k11⟩ := (KeepK.out _ HB.out).out
  have kl1 : w.heap.size + 1 < w5.heap.size := Nat.lt_of_lt_of_le hWw HB.out.size
  have kl0 : w.heap.size < w5.heap.size := by omega
  obtain ⟨KW_0, KW_1, KW_2, KW_3⟩ := blk2 KW.out
  have KW_l := (Array.getElem?_eq_some_iff.1 KW.out).1
  obtain ⟨KX0_0, KX0_1, KX0_2, KX0_3⟩ := blk2 KX0.out
  have KX0_l := (Array.getElem?_eq_some_iff.1 KX0.out).1
  obtain ⟨w6, hw6⟩ : ∃ w6, w6 = w5.alloc (.cells #[.slice ax1 D1.1.length cx1, .slice bx1 D1.2.length dx1] 42) := ⟨_, rfl⟩
  have hbw6 : Below w5.heap.size w5 w6 := by rw [hw6]; exact (Below.refl _ _).alloc (Nat.le_refl _) _
  have KX1 : Hid (w6.heap[w5.heap.size]? = some (.cells #[.slice ax1 D1.1.length cx1, .slice bx1 D1.2.length dx1] 42 (0, 0))) := by rw [hw6]; exact blkNew _ _ rfl
  have Hw6 := Lib.hid hw6; clear hw6
  go_wp2_with fail
  rw [← Hw6.out]
  clear k00 k01 k10 k11 kl0 kl1
  clear KW_0 KW_1 KW_2 KW_3 KW_l
  clear KX0_0 KX0_1 KX0_2 KX0_3 KX0_l
  replace HB := Lib.hid (HB.out.trans (hbw6.mono HB.out.size))
  replace HB3 := Lib.hid (HB3.out.trans (hbw6.mono HB3.out.size))
  replace KW := Lib.hid (blkBel hbw6 KW.out)
  replace HXx0 := Lib.hid (HXx0.out.stay (ksB hbw6))
  replace KX0 := Lib.hid (blkBel hbw6 KX0.out)
  replace HXx1 := Lib.hid (HXx1.out.stay (ksB hbw6))
  clear hbw6
  have hWg := HB.out.size
  have h3g := HB3.out.size
  have hwg := (Array.getElem?_eq_some_iff.1 KW.out).1
  have hxg0 := (Array.getElem?_eq_some_iff.1 KX0.out).1
  have hxg1 := (Array.getElem?_eq_some_iff.1 KX1.out).1
  refine (DfaLess_c _ _ _ _ D0 D1 _ HXx0.out.rd HXx1.out.rd).mono ?_
  rintro e w7 ⟨vg1, vg2, zg, rfl, hb, hpg, hvg⟩
  rw [hq.out] at hvg
  rw [hP.out] at hpg
  have hzvg := hb.size
  replace HB := Lib.hid (HB.out.trans (hb.mono HB.out.size))
  replace HB3 := Lib.hid (HB3.out.trans (hb.mono HB3.out.size))
  replace KW := Lib.hid (blkBel hb KW.out)
  replace HXx0 := Lib.hid (HXx0.out.stay (ksB hb))
  replace KX0 := Lib.hid (blkBel hb KX0.out)
  replace HXx1 := Lib.hid (HXx1.out.stay (ksB hb))
  replace KX1 := Lib.hid (blkBel hb KX1.out)
  clear hb
  have Hvg := Lib.hid hvg.out; clear hvg
  obtain ⟨avg, cvg, bvg, dvg, rfl, rfl, _, _⟩ := Hvg.out.rd.shapes
  obtain rfl := boolEq hpg HPw
  clear hpg
  obtain ⟨k00, k01, k10, k11⟩ := (KeepK.out _ HB.out).out
  have kl1 : w.heap.size + 1 < w7.heap.size := Nat.lt_of_lt_of_le hWw HB.out.size
  have kl0 : w.heap.size < w7.heap.size := by omega
  obtain ⟨KW_0, KW_1, KW_2, KW_3⟩ := blk2 KW.out
  have KW_l := (Array.getElem?_eq_some_iff.1 KW.out).1
  obtain ⟨KX0_0, KX0_1, KX0_2, KX0_3⟩ := blk2 KX0.out
  have KX0_l := (Array.getElem?_eq_some_iff.1 KX0.out).1
  obtain ⟨KX1_0, KX1_1, KX1_2, KX1_3⟩ := blk2 KX1.out
  have KX1_l := (Array.getElem?_eq_some_iff.1 KX1.out).1
  obtain ⟨w8, hw8⟩ : ∃ w8, w8 = w7.alloc (.cells #[.slice avg q.1.length cvg, .slice bvg q.2.length dvg] 42) := ⟨_, rfl⟩
  have hbw8 : Below w7.heap.size w7 w8 := by rw [hw8]; exact (Below.refl _ _).alloc (Nat.le_refl _) _
  have KG : Hid (w8.heap[w7.heap.size]? = some (.cells #[.slice avg q.1.length cvg, .slice bvg q.2.length dvg] 42 (0, 0))) := by rw [hw8]; exact blkNew _ _ rfl
  have Hw8 := Lib.hid hw8; clear hw8
  have hbz := bneSelf zg
  go_wp2_with fail
  rw [← Hw8.out]
  clear k00 k01 k10 k11 kl0 kl1
  clear KW_0 KW_1 KW_2 KW_3 KW_l
  clear KX0_0 KX0_1 KX0_2 KX0_3 KX0_l
  clear KX1_0 KX1_1 KX1_2 KX1_3 KX1_l
  replace HB := Lib.hid (HB.out.trans (hbw8.mono HB.out.size))
  replace HB3 := Lib.hid (HB3.out.trans (hbw8.mono HB3.out.size))
  replace KW := Lib.hid (blkBel hbw8 KW.out)
  replace HXx0 := Lib.hid (HXx0.out.stay (ksB hbw8))
  replace KX0 := Lib.hid (blkBel hbw8 KX0.out)
  replace HXx1 := Lib.hid (HXx1.out.stay (ksB hbw8))
  replace KX1 := Lib.hid (blkBel hbw8 KX1.out)
  replace Hvg := Lib.hid (Hvg.out.stay (ksB hbw8))
  clear hbw8
  refine (eqDfa_c _ _ _ _ q _ Hvg.out.rd (HW3.out.stay (kpL HB3.out))).mono ?_
  rintro e w9 ⟨bq, rfl, hb, hq0⟩
  cases bq
  · exact (hbF hq0 trivial).elim
  clear hq0
  replace HB := Lib.hid (HB.out.trans (hb.mono HB.out.size))
  replace HB3 := Lib.hid (HB3.out.trans (hb.mono HB3.out.size))
  replace KW := Lib.hid (blkBel hb KW.out)
  replace HXx0 := Lib.hid (HXx0.out.stay (ksB hb))
  replace KX0 := Lib.hid (blkBel hb KX0.out)
  replace HXx1 := Lib.hid (HXx1.out.stay (ksB hb))
  replace KX1 := Lib.hid (blkBel hb KX1.out)
  replace Hvg := Lib.hid (Hvg.out.stay (ksB hb))
  replace KG := Lib.hid (blkBel hb KG.out)
  clear hb
  obtain ⟨k00, k01, k10, k11⟩ := (KeepK.out _ HB.out).out
  have kl1 : w.heap.size + 1 < w9.heap.size := Nat.lt_of_lt_of_le hWw HB.out.size
  have kl0 : w.heap.size < w9.heap.size := by omega
  obtain ⟨KW_0, KW_1, KW_2, KW_3⟩ := blk2 KW.out
  have KW_l := (Array.getElem?_eq_some_iff.1 KW.out).1
  obtain ⟨KX0_0, KX0_1, KX0_2, KX0_3⟩ := blk2 KX0.out
  have KX0_l := (Array.getElem?_eq_some_iff.1 KX0.out).1
  obtain ⟨KX1_0, KX1_1, KX1_2, KX1_3⟩ := blk2 KX1.out
  have KX1_l := (Array.getElem?_eq_some_iff.1 KX1.out).1
  obtain ⟨KG_0, KG_1, KG_2, KG_3⟩ := blk2 KG.out
  have KG_l := (Array.getElem?_eq_some_iff.1 KG.out).1
  go_wp2_with fail
  have HBD : Hid (Below W.heap.size W w9.drew) := HB.out.drew
  have HXD := Lib.hid (HXx0.out.rd.stay (kpB ((Below.refl w9.heap.size w9).drew)))
  go_region_held3 (fun w' => w'.cell? ⟨w.heap.size, 0, none⟩ = some (.slice a0 D0.1.length c0) ∧ w'.cell? ⟨w.heap.size, 1, none⟩ = some (.slice b0 D0.2.length d0) ∧ w'.cell? ⟨w3.heap.size, 0, none⟩ = some (.slice ax0 D0.1.length cx0) ∧ w'.cell? ⟨w3.heap.size, 1, none⟩ = some (.slice bx0 D0.2.length dx0))
    (first | exact ⟨k00, k01, KX0_0, KX0_1⟩ | exact ⟨(KeepK.out _ (Lib.hid (HBD.out.trans (hb10.mono HBD.out.size)))).out.1, (KeepK.out _ (Lib.hid (HBD.out.trans (hb10.mono HBD.out.size)))).out.2.1, (blk2 (blkBel hb10 KX0.out)).1, (blk2 (blkBel hb10 KX0.out)).2.1⟩ | exact ⟨(KeepK.out _ (Lib.hid (HBD.out.trans ((hb10.trans (hb11.mono hb10.size)).mono HBD.out.size)))).out.1, (KeepK.out _ (Lib.hid (HBD.out.trans ((hb10.trans (hb11.mono hb10.size)).mono HBD.out.size)))).out.2.1, (blk2 (blkBel hb11 (blkBel hb10 KX0.out))).1, (blk2 (blkBel hb11 (blkBel hb10 KX0.out))).2.1⟩)
    (first | (go_at_call 24; refine (toDfa_c _ _ D0 _ (H0.out.stay (kpB HBD.out)) HSM0.out).mono ?_; rintro e v100 ⟨y1, y2, rfl, hb10, hd10⟩) | (go_at_call 27; refine (eqDfa_c _ _ _ _ D0 _ (HXD.out.stay (kpB hb10)) hd10.out.rd).mono ?_; rintro e v110 ⟨bq, rfl, hb11, hq0⟩; cases bq; exact (hbF hq0 trivial).elim))
  clear k00 k01 k10 k11 kl0 kl1
  clear KW_0 KW_1 KW_2 KW_3 KW_l
  clear KX0_0 KX0_1 KX0_2 KX0_3 KX0_l
  clear KX1_0 KX1_1 KX1_2 KX1_3 KX1_l
  clear KG_0 KG_1 KG_2 KG_3 KG_l
  have hb : Below w9.heap.size w9 v110 := ((Below.refl w9.heap.size w9).drew).trans (hb10.trans (hb11.mono hb10.size))
  clear hb10 hb11 HBD HXD hd10
  replace HB := Lib.hid (HB.out.trans (hb.mono HB.out.size))
  replace HB3 := Lib.hid (HB3.out.trans (hb.mono HB3.out.size))
  replace KW := Lib.hid (blkBel hb KW.out)
  replace HXx0 := Lib.hid (HXx0.out.stay (ksB hb))
  replace KX0 := Lib.hid (blkBel hb KX0.out)
  replace HXx1 := Lib.hid (HXx1.out.stay (ksB hb))
  replace KX1 := Lib.hid (blkBel hb KX1.out)
  replace Hvg := Lib.hid (Hvg.out.stay (ksB hb))
  replace KG := Lib.hid (blkBel hb KG.out)
  clear hb
  obtain ⟨k00, k01, k10, k11⟩ := (KeepK.out _ HB.out).out
  have kl1 : w.heap.size + 1 < v110.heap.size := Nat.lt_of_lt_of_le hWw HB.out.size
  have kl0 : w.heap.size < v110.heap.size := by omega
  obtain ⟨KW_0, KW_1, KW_2, KW_3⟩ := blk2 KW.out
  have KW_l := (Array.getElem?_eq_some_iff.1 KW.out).1
  obtain ⟨KX0_0, KX0_1, KX0_2, KX0_3⟩ := blk2 KX0.out
  have KX0_l := (Array.getElem?_eq_some_iff.1 KX0.out).1
  obtain ⟨KX1_0, KX1_1, KX1_2, KX1_3⟩ := blk2 KX1.out
  have KX1_l := (Array.getElem?_eq_some_iff.1 KX1.out).1
  obtain ⟨KG_0, KG_1, KG_2, KG_3⟩ := blk2 KG.out
  have KG_l := (Array.getElem?_eq_some_iff.1 KG.out).1
  go_wp2_with fail
  have HBD : Hid (Below W.heap.size W v110.drew) := HB.out.drew
  have HXD := Lib.hid (HXx1.out.rd.stay (kpB ((Below.refl v110.heap.size v110).drew)))
  go_region_held3 (fun w' => w'.cell? ⟨w.heap.size + 1, 0, none⟩ = some (.slice a1 D1.1.length c1) ∧ w'.cell? ⟨w.heap.size + 1, 1, none⟩ = some (.slice b1 D1.2.length d1) ∧ w'.cell? ⟨w5.heap.size, 0, none⟩ = some (.slice ax1 D1.1.length cx1) ∧ w'.cell? ⟨w5.heap.size, 1, none⟩ = some (.slice bx1 D1.2.length dx1))
    (first | exact ⟨k10, k11, KX1_0, KX1_1⟩ | exact ⟨(KeepK.out _ (Lib.hid (HBD.out.trans (hb10.mono HBD.out.size)))).out.2.2.1, (KeepK.out _ (Lib.hid (HBD.out.trans (hb10.mono HBD.out.size)))).out.2.2.2, (blk2 (blkBel hb10 KX1.out)).1, (blk2 (blkBel hb10 KX1.out)).2.1⟩ | exact ⟨(KeepK.out _ (Lib.hid (HBD.out.trans ((hb10.trans (hb11.mono hb10.size)).mono HBD.out.size)))).out.2.2.1, (KeepK.out _ (Lib.hid (HBD.out.trans ((hb10.trans (hb11.mono hb10.size)).mono HBD.out.size)))).out.2.2.2, (blk2 (blkBel hb11 (blkBel hb10 KX1.out))).1, (blk2 (blkBel hb11 (blkBel hb10 KX1.out))).2.1⟩)
    (first | (go_at_call 24; refine (toDfa_c _ _ D1 _ (H1.out.stay (kpB HBD.out)) HSM1.out).mono ?_; rintro e v101 ⟨y1, y2, rfl, hb10, hd10⟩) | (go_at_call 27; refine (eqDfa_c _ _ _ _ D1 _ (HXD.out.stay (kpB hb10)) hd10.out.rd).mono ?_; rintro e v111 ⟨bq, rfl, hb11, hq0⟩; cases bq; exact (hbF hq0 trivial).elim))
  clear k00 k01 k10 k11 kl0 kl1
  clear KW_0 KW_1 KW_2 KW_3 KW_l
  clear KX0_0 KX0_1 KX0_2 KX0_3 KX0_l
  clear KX1_0 KX1_1 KX1_2 KX1_3 KX1_l
  clear KG_0 KG_1 KG_2 KG_3 KG_l
  have hb : Below v110.heap.size v110 v111 := ((Below.refl v110.heap.size v110).drew).trans (hb10.trans (hb11.mono hb10.size))
  clear hb10 hb11 HBD HXD hd10
  replace HB := Lib.hid (HB.out.trans (hb.mono HB.out.size))
  replace HB3 := Lib.hid (HB3.out.trans (hb.mono HB3.out.size))
  replace KW := Lib.hid (blkBel hb KW.out)
  replace HXx0 := Lib.hid (HXx0.out.stay (ksB hb))
  replace KX0 := Lib.hid (blkBel hb KX0.out)
  replace HXx1 := Lib.hid (HXx1.out.stay (ksB hb))
  replace KX1 := Lib.hid (blkBel hb KX1.out)
  replace Hvg := Lib.hid (Hvg.out.stay (ksB hb))
  replace KG := Lib.hid (blkBel hb KG.out)
  clear hb
  obtain ⟨k00, k01, k10, k11⟩ := (KeepK.out _ HB.out).out
  have kl1 : w.heap.size + 1 < v111.heap.size := Nat.lt_of_lt_of_le hWw HB.out.size
  have kl0 : w.heap.size < v111.heap.size := by omega
  obtain ⟨KW_0, KW_1, KW_2, KW_3⟩ := blk2 KW.out
  have KW_l := (Array.getElem?_eq_some_iff.1 KW.out).1
  obtain ⟨KX0_0, KX0_1, KX0_2, KX0_3⟩ := blk2 KX0.out
  have KX0_l := (Array.getElem?_eq_some_iff.1 KX0.out).1
  obtain ⟨KX1_0, KX1_1, KX1_2, KX1_3⟩ := blk2 KX1.out
  have KX1_l := (Array.getElem?_eq_some_iff.1 KX1.out).1
  obtain ⟨KG_0, KG_1, KG_2, KG_3⟩ := blk2 KG.out
  have KG_l := (Array.getElem?_eq_some_iff.1 KG.out).1
  have htt0 := tot_small HSM0.out.1
  have htl0 := HSM0.out.2
  have htt1 := tot_small HSM1.out.1
  have htl1 := HSM1.out.2
  go_wp2_with fail
  clear k00 k01 k10 k11 kl0 kl1
  clear KW_0 KW_1 KW_2 KW_3 KW_l
  clear KX0_0 KX0_1 KX0_2 KX0_3 KX0_l
  clear KX1_0 KX1_1 KX1_2 KX1_3 KX1_l
  clear KG_0 KG_1 KG_2 KG_3 KG_l
  have hsz0 : ∀ b : Nat, (wc3.heap.size ≤ b ∧ b < w3.heap.size) → b < v111.heap.size := fun b hb => by have := hb.2; have := (Array.getElem?_eq_some_iff.1 KX0.out).1; omega
  refine (markDfa_f _ _ D0 (1) _ HXx0.out hsz0 (by omega) HSM0.out).mono ?_
  rintro e w10 ⟨rfl, hF, hM⟩
  clear hM hsz0
  clear HXx0
  replace HB := Lib.hid (HB.out.trans (hF.out.low (B := W.heap.size) (fun b h => by have := h.1; omega) HB.out.size))
  replace HB3 := Lib.hid (HB3.out.trans (hF.out.low (B := wc3.heap.size) (fun b h => by have := h.1; omega) HB3.out.size))
  replace KW : Hid (w10.heap[gw]? = _) := (hF.out.block _ (Array.getElem?_eq_some_iff.1 KW.out).1 (fun h => by have h1 := h.1; have h2 := h.2; omega)).trans KW.out
  replace KX0 : Hid (w10.heap[w3.heap.size]? = _) := (hF.out.block _ (Array.getElem?_eq_some_iff.1 KX0.out).1 (fun h => by have h1 := h.1; have h2 := h.2; omega)).trans KX0.out
  replace HXx1 := Lib.hid (HXx1.out.stay (hF.out.ks.mono fun b h1 h2 => by have := h1.1; have := h1.2; have := h2.1; have := h2.2; omega))
  replace KX1 : Hid (w10.heap[w5.heap.size]? = _) := (hF.out.block _ (Array.getElem?_eq_some_iff.1 KX1.out).1 (fun h => by have h1 := h.1; have h2 := h.2; omega)).trans KX1.out
  replace Hvg := Lib.hid (Hvg.out.stay (hF.out.ks.mono fun b h1 h2 => by have := h1.1; have := h1.2; have := h2.1; have := h2.2; omega))
  replace KG : Hid (w10.heap[w7.heap.size]? = _) := (hF.out.block _ (Array.getElem?_eq_some_iff.1 KG.out).1 (fun h => by have h1 := h.1; have h2 := h.2; omega)).trans KG.out
  clear hF
  obtain ⟨k00, k01, k10, k11⟩ := (KeepK.out _ HB.out).out
  have kl1 : w.heap.size + 1 < w10.heap.size := Nat.lt_of_lt_of_le hWw HB.out.size
  have kl0 : w.heap.size < w10.heap.size := by omega
  obtain ⟨KW_0, KW_1, KW_2, KW_3⟩ := blk2 KW.out
  have KW_l := (Array.getElem?_eq_some_iff.1 KW.out).1
  obtain ⟨KX0_0, KX0_1, KX0_2, KX0_3⟩ := blk2 KX0.out
  have KX0_l := (Array.getElem?_eq_some_iff.1 KX0.out).1
  obtain ⟨KX1_0, KX1_1, KX1_2, KX1_3⟩ := blk2 KX1.out
  have KX1_l := (Array.getElem?_eq_some_iff.1 KX1.out).1
  obtain ⟨KG_0, KG_1, KG_2, KG_3⟩ := blk2 KG.out
  have KG_l := (Array.getElem?_eq_some_iff.1 KG.out).1
  obtain ⟨k0, hk0⟩ : ∃ k : Int, k = 1 + tot D0.1 + D0.2.length := ⟨_, rfl⟩
  rw [← hk0]
  have hk00 : 1 ≤ k0 := by omega
  have hk10 : k0 ≤ 1099512676400 := by omega
  clear hk0
  go_wp2_with fail
  clear k00 k01 k10 k11 kl0 kl1
  clear KW_0 KW_1 KW_2 KW_3 KW_l
  clear KX0_0 KX0_1 KX0_2 KX0_3 KX0_l
  clear KX1_0 KX1_1 KX1_2 KX1_3 KX1_l
  clear KG_0 KG_1 KG_2 KG_3 KG_l
  have hsz1 : ∀ b : Nat, (w4.heap.size ≤ b ∧ b < w5.heap.size) → b < w10.heap.size := fun b hb => by have := hb.2; have := (Array.getElem?_eq_some_iff.1 KX1.out).1; omega
  refine (markDfa_f _ _ D1 (k0) _ HXx1.out hsz1 (by omega) HSM1.out).mono ?_
  rintro e w11 ⟨rfl, hF, hM⟩
  clear hM hsz1
  clear HXx1
  replace HB := Lib.hid (HB.out.trans (hF.out.low (B := W.heap.size) (fun b h => by have := h.1; omega) HB.out.size))
  replace HB3 := Lib.hid (HB3.out.trans (hF.out.low (B := wc3.heap.size) (fun b h => by have := h.1; omega) HB3.out.size))
  replace KW : Hid (w11.heap[gw]? = _) := (hF.out.block _ (Array.getElem?_eq_some_iff.1 KW.out).1 (fun h => by have h1 := h.1; have h2 := h.2; omega)).trans KW.out
  replace KX0 : Hid (w11.heap[w3.heap.size]? = _) := (hF.out.block _ (Array.getElem?_eq_some_iff.1 KX0.out).1 (fun h => by have h1 := h.1; have h2 := h.2; omega)).trans KX0.out
  replace KX1 : Hid (w11.heap[w5.heap.size]? = _) := (hF.out.block _ (Array.getElem?_eq_some_iff.1 KX1.out).1 (fun h => by have h1 := h.1; have h2 := h.2; omega)).trans KX1.out
  replace Hvg := Lib.hid (Hvg.out.stay (hF.out.ks.mono fun b h1 h2 => by have := h1.1; have := h1.2; have := h2.1; have := h2.2; omega))
  replace KG : Hid (w11.heap[w7.heap.size]? = _) := (hF.out.block _ (Array.getElem?_eq_some_iff.1 KG.out).1 (fun h => by have h1 := h.1; have h2 := h.2; omega)).trans KG.out
  clear hF
  obtain ⟨k00, k01, k10, k11⟩ := (KeepK.out _ HB.out).out
  have kl1 : w.heap.size + 1 < w11.heap.size := Nat.lt_of_lt_of_le hWw HB.out.size
  have kl0 : w.heap.size < w11.heap.size := by omega
  obtain ⟨KW_0, KW_1, KW_2, KW_3⟩ := blk2 KW.out
  have KW_l := (Array.getElem?_eq_some_iff.1 KW.out).1
  obtain ⟨KX0_0, KX0_1, KX0_2, KX0_3⟩ := blk2 KX0.out
  have KX0_l := (Array.getElem?_eq_some_iff.1 KX0.out).1
  obtain ⟨KX1_0, KX1_1, KX1_2, KX1_3⟩ := blk2 KX1.out
  have KX1_l := (Array.getElem?_eq_some_iff.1 KX1.out).1
  obtain ⟨KG_0, KG_1, KG_2, KG_3⟩ := blk2 KG.out
  have KG_l := (Array.getElem?_eq_some_iff.1 KG.out).1
  obtain ⟨k1, hk1⟩ : ∃ k : Int, k = k0 + tot D1.1 + D1.2.length := ⟨_, rfl⟩
  rw [← hk1]
  have hk01 : 1 ≤ k1 := by omega
  have hk11 : k1 ≤ 2199025352800 := by omega
  clear hk1
  go_wp2_with fail
  clear k00 k01 k10 k11 kl0 kl1
  clear KW_0 KW_1 KW_2 KW_3 KW_l
  clear KX0_0 KX0_1 KX0_2 KX0_3 KX0_l
  clear KX1_0 KX1_1 KX1_2 KX1_3 KX1_l
  clear KG_0 KG_1 KG_2 KG_3 KG_l
  refine (eqDfa_c _ _ _ _ q _ Hvg.out.rd (HW3.out.stay (kpL HB3.out))).mono ?_
  rintro e w12 ⟨bq, rfl, hb, hq0⟩
  cases bq
  · exact (hbF hq0 trivial).elim
  clear hq0
  replace HB := Lib.hid (HB.out.trans (hb.mono HB.out.size))
  replace HB3 := Lib.hid (HB3.out.trans (hb.mono HB3.out.size))
  replace KW := Lib.hid (blkBel hb KW.out)
  replace KX0 := Lib.hid (blkBel hb KX0.out)
  replace KX1 := Lib.hid (blkBel hb KX1.out)
  replace Hvg := Lib.hid (Hvg.out.stay (ksB hb))
  replace KG := Lib.hid (blkBel hb KG.out)
  clear hb
  obtain ⟨k00, k01, k10, k11⟩ := (KeepK.out _ HB.out).out
  have kl1 : w.heap.size + 1 < w12.heap.size := Nat.lt_of_lt_of_le hWw HB.out.size
  have kl0 : w.heap.size < w12.heap.size := by omega
  obtain ⟨KW_0, KW_1, KW_2, KW_3⟩ := blk2 KW.out
  have KW_l := (Array.getElem?_eq_some_iff.1 KW.out).1
  obtain ⟨KX0_0, KX0_1, KX0_2, KX0_3⟩ := blk2 KX0.out
  have KX0_l := (Array.getElem?_eq_some_iff.1 KX0.out).1
  obtain ⟨KX1_0, KX1_1, KX1_2, KX1_3⟩ := blk2 KX1.out
  have KX1_l := (Array.getElem?_eq_some_iff.1 KX1.out).1
  obtain ⟨KG_0, KG_1, KG_2, KG_3⟩ := blk2 KG.out
  have KG_l := (Array.getElem?_eq_some_iff.1 KG.out).1
  go_wp2_with fail
  clear k00 k01 k10 k11 kl0 kl1
  clear KW_0 KW_1 KW_2 KW_3 KW_l
  clear KX0_0 KX0_1 KX0_2 KX0_3 KX0_l
  clear KX1_0 KX1_1 KX1_2 KX1_3 KX1_l
  clear KG_0 KG_1 KG_2 KG_3 KG_l
  have hsr : ∀ b : Nat, (w6.heap.size ≤ b ∧ b < w7.heap.size) → b < w12.heap.size := fun b hb => by have := hb.2; have := (Array.getElem?_eq_some_iff.1 KG.out).1; omega
  refine (markDfa_f _ _ q 1 _ Hvg.out hsr (by omega) HSmall.out).mono ?_
  rintro e w13 ⟨rfl, hF, hM⟩
  clear hsr
  clear Hvg
  replace HB := Lib.hid (HB.out.trans (hF.out.low (B := W.heap.size) (fun b h => by have := h.1; omega) HB.out.size))
  replace HB3 := Lib.hid (HB3.out.trans (hF.out.low (B := wc3.heap.size) (fun b h => by have := h.1; omega) HB3.out.size))
  replace KW : Hid (w13.heap[gw]? = _) := (hF.out.block _ (Array.getElem?_eq_some_iff.1 KW.out).1 (fun h => by have h1 := h.1; have h2 := h.2; omega)).trans KW.out
  replace KX0 : Hid (w13.heap[w3.heap.size]? = _) := (hF.out.block _ (Array.getElem?_eq_some_iff.1 KX0.out).1 (fun h => by have h1 := h.1; have h2 := h.2; omega)).trans KX0.out
  replace KX1 : Hid (w13.heap[w5.heap.size]? = _) := (hF.out.block _ (Array.getElem?_eq_some_iff.1 KX1.out).1 (fun h => by have h1 := h.1; have h2 := h.2; omega)).trans KX1.out
  replace KG : Hid (w13.heap[w7.heap.size]? = _) := (hF.out.block _ (Array.getElem?_eq_some_iff.1 KG.out).1 (fun h => by have h1 := h.1; have h2 := h.2; omega)).trans KG.out
  have HM := Lib.hid hM.out; clear hM hF
  obtain ⟨k00, k01, k10, k11⟩ := (KeepK.out _ HB.out).out
  have kl1 : w.heap.size + 1 < w13.heap.size := Nat.lt_of_lt_of_le hWw HB.out.size
  have kl0 : w.heap.size < w13.heap.size := by omega
  obtain ⟨KW_0, KW_1, KW_2, KW_3⟩ := blk2 KW.out
  have KW_l := (Array.getElem?_eq_some_iff.1 KW.out).1
  obtain ⟨KX0_0, KX0_1, KX0_2, KX0_3⟩ := blk2 KX0.out
  have KX0_l := (Array.getElem?_eq_some_iff.1 KX0.out).1
  obtain ⟨KX1_0, KX1_1, KX1_2, KX1_3⟩ := blk2 KX1.out
  have KX1_l := (Array.getElem?_eq_some_iff.1 KX1.out).1
  obtain ⟨KG_0, KG_1, KG_2, KG_3⟩ := blk2 KG.out
  have KG_l := (Array.getElem?_eq_some_iff.1 KG.out).1
  have htq := tot_small HSmall.out.1
  have htq2 := HSmall.out.2
  obtain ⟨kr, hkr⟩ : ∃ k : Int, k = 1 + (tot q.1 : Int) + (q.2.length : Int) := ⟨_, rfl⟩
  have hkr0 : 0 ≤ kr := by omega
  have hkr1 : kr ≤ 4000000000000 := by omega
  rw [← hkr]
  have hne := bneS kr
  go_wp2_with fail
  clear k00 k01 k10 k11 kl0 kl1
  clear KW_0 KW_1 KW_2 KW_3 KW_l
  clear KX0_0 KX0_1 KX0_2 KX0_3 KX0_l
  clear KX1_0 KX1_1 KX1_2 KX1_3 KX1_l
  clear KG_0 KG_1 KG_2 KG_3 KG_l
  refine (heldDfa_f _ _ q 1 _ HM.out.rd (by omega) HSmall.out).mono ?_
  rintro e w14 ⟨rfl, hb⟩
  replace HB := Lib.hid (HB.out.trans (hb.mono HB.out.size))
  replace HB3 := Lib.hid (HB3.out.trans (hb.mono HB3.out.size))
  replace KW := Lib.hid (blkBel hb KW.out)
  replace KX0 := Lib.hid (blkBel hb KX0.out)
  replace KX1 := Lib.hid (blkBel hb KX1.out)
  replace KG := Lib.hid (blkBel hb KG.out)
  replace HM := Lib.hid (HM.out.stay (ksB hb))
  clear hb
  rw [← hkr]
  obtain ⟨k00, k01, k10, k11⟩ := (KeepK.out _ HB.out).out
  have kl1 : w.heap.size + 1 < w14.heap.size := Nat.lt_of_lt_of_le hWw HB.out.size
  have kl0 : w.heap.size < w14.heap.size := by omega
  obtain ⟨KW_0, KW_1, KW_2, KW_3⟩ := blk2 KW.out
  have KW_l := (Array.getElem?_eq_some_iff.1 KW.out).1
  obtain ⟨KX0_0, KX0_1, KX0_2, KX0_3⟩ := blk2 KX0.out
  have KX0_l := (Array.getElem?_eq_some_iff.1 KX0.out).1
  obtain ⟨KX1_0, KX1_1, KX1_2, KX1_3⟩ := blk2 KX1.out
  have KX1_l := (Array.getElem?_eq_some_iff.1 KX1.out).1
  obtain ⟨KG_0, KG_1, KG_2, KG_3⟩ := blk2 KG.out
  have KG_l := (Array.getElem?_eq_some_iff.1 KG.out).1
  go_wp2_with fail
  go_cut [15, 16] (fun s1 s2 wx => ∃ (gh : Nat) (avh : Option Addr) (cvh : Nat) (bvh : Option Addr) (dvh : Nat) (zh : Bool), s1 = .pointer (some ⟨gh, 0, none⟩) ∧ s2 = .bool zh ∧ Hid (zh = true ↔ P) ∧ Hid (Below w14.heap.size w14 wx) ∧ Hid (w14.heap.size ≤ gh) ∧ Hid (wx.heap[gh]? = some (.cells #[.slice avh q.1.length cvh, .slice bvh q.2.length dvh] 42 (0, 0))) ∧ Hid (DfaW (fun b => w14.heap.size ≤ b ∧ b < wx.heap.size) wx (.slice avh q.1.length cvh) (.slice bvh q.2.length dvh) q))
  case first =>
    have hbs : Hid (Below w14.heap.size w14 w14.drew) := (Below.refl _ _).drew
    go_region_held3 (fun w' => w'.cell? ⟨w.heap.size, 0, none⟩ = some (.slice a0 D0.1.length c0) ∧ w'.cell? ⟨w.heap.size, 1, none⟩ = some (.slice b0 D0.2.length d0) ∧ w'.cell? ⟨w.heap.size + 1, 0, none⟩ = some (.slice a1 D1.1.length c1) ∧ w'.cell? ⟨w.heap.size + 1, 1, none⟩ = some (.slice b1 D1.2.length d1))
      (first | exact (KeepK.out _ (Lib.hid (HB.out.trans (hbs.out.mono HB.out.size)))).out | exact (KeepK.out _ (Lib.hid (HB.out.trans ((hbs.out.alloc hbs.out.size _).mono HB.out.size)))).out | exact (KeepK.out _ (Lib.hid ((HB.out.trans (hbs.out.mono HB.out.size)).setCell (by have := hKg.out; have := HB.out.size; (try dsimp only); omega) _))).out | exact (KeepK.out _ (Lib.hid (((HB.out.trans (hbs.out.mono HB.out.size)).setCell (by have := hKg.out; have := HB.out.size; (try dsimp only); omega) _).setCell (by have := hKg.out; have := HB.out.size; (try dsimp only); omega) _))).out)
      (first | (go_at_call_of 24 (Value.agg #[.slice a0 D0.1.length c0, .slice b0 D0.2.length d0]); refine (toDfa_c _ _ D0 _ (H0.out.stay (kpB (by first | exact HB.out.trans (hbs.out.mono HB.out.size) | exact HB.out.trans ((hbs.out.alloc hbs.out.size _).mono HB.out.size)))) HSM0.out).mono ?_; rintro e v0 ⟨yn0, ye0, rfl, hb, hd⟩; (first | (replace hbs := Lib.hid (hbs.out.trans (hb.mono hbs.out.size)); (try (revert Kb; intro Kb; replace Kb := Lib.hid (blkBel hb Kb.out)))) | (have Kb := Lib.hid (blkBel hb (blkNew _ _ rfl)); have hKg := Lib.hid hbs.out.size; replace hbs := Lib.hid ((hbs.out.alloc hbs.out.size _).trans (hb.mono (hbs.out.alloc hbs.out.size _).size)))); (try (revert HXy1; intro HXy1; first | replace HXy1 := Lib.hid (HXy1.out.stay (kpB hb)) | replace HXy1 := Lib.hid ((HXy1.out.stay kpAlloc).stay (kpB hb)))); have HXy0 := Lib.hid hd.out.rd; clear hb hd) | (go_at_call_of 24 (Value.agg #[.slice a1 D1.1.length c1, .slice b1 D1.2.length d1]); refine (toDfa_c _ _ D1 _ (H1.out.stay (kpB (by first | exact HB.out.trans (hbs.out.mono HB.out.size) | exact HB.out.trans ((hbs.out.alloc hbs.out.size _).mono HB.out.size)))) HSM1.out).mono ?_; rintro e v1 ⟨yn1, ye1, rfl, hb, hd⟩; (first | (replace hbs := Lib.hid (hbs.out.trans (hb.mono hbs.out.size)); (try (revert Kb; intro Kb; replace Kb := Lib.hid (blkBel hb Kb.out)))) | (have Kb := Lib.hid (blkBel hb (blkNew _ _ rfl)); have hKg := Lib.hid hbs.out.size; replace hbs := Lib.hid ((hbs.out.alloc hbs.out.size _).trans (hb.mono (hbs.out.alloc hbs.out.size _).size)))); (try (revert HXy0; intro HXy0; first | replace HXy0 := Lib.hid (HXy0.out.stay (kpB hb)) | replace HXy0 := Lib.hid ((HXy0.out.stay kpAlloc).stay (kpB hb)))); have HXy1 := Lib.hid hd.out.rd; clear hb hd) | (go_at_call 51; refine (DfaLess_c _ _ _ _ D0 D1 _ (by first | exact HXy0.out | exact HXy0.out.stay kpAlloc) (by first | exact HXy1.out | exact HXy1.out.stay kpAlloc)).mono ?_; rintro e v9 ⟨q1, q2, qb, rfl, hb, hp, hd⟩; have hzr := hbs.out.size; rw [hq.out] at hd; rw [hP.out] at hp; obtain ⟨aa, cc, bb, dd, rfl, rfl, _, _⟩ := hd.out.rd.shapes; (try (revert Kb; intro Kb; have hgr := (Array.getElem?_eq_some_iff.1 Kb.out).1)); (first | (replace hbs := Lib.hid (hbs.out.trans (hb.mono hbs.out.size)); (try (revert Kb; intro Kb; replace Kb := Lib.hid (blkBel hb Kb.out)))) | (have Kb := Lib.hid (blkBel hb (blkNew _ _ rfl)); have hKg := Lib.hid hbs.out.size; replace hbs := Lib.hid ((hbs.out.alloc hbs.out.size _).trans (hb.mono (hbs.out.alloc hbs.out.size _).size)))); (try (revert Kb; intro Kb; obtain ⟨kb0, kb1, kb2, kb3⟩ := blk2 Kb.out; have hgl := (Array.getElem?_eq_some_iff.1 Kb.out).1)); have hzd := hb.size; (try simp only [World.size_alloc] at hzd)))
    all_goals
      have Hp := Lib.hid hp.out
      clear hp
      go_wp2_with fail
      go_meet
      have hdd : DfaW (fun b => w14.heap.size ≤ b ∧ b < v9.heap.size) v9 (.slice aa q.1.length cc) (.slice bb q.2.length dd) q := hd.out.mono (fun b h => ⟨by have h1 := h.1; (try simp only [World.size_alloc] at h1); omega, h.2⟩)
      first
        | (refine ⟨v9.heap.size, aa, cc, bb, dd, qb, rfl, rfl, Hp, hbs.out.alloc hbs.out.size _, hbs.out.size, blkNew _ _ rfl, ?_⟩
           exact (hdd.stay (ksB ((Below.refl _ _).alloc (Nat.le_refl _) _))).mono (fun b h => ⟨h.1, by simp; have := h.2; omega⟩))
        | (revert Kb; intro Kb
           refine ⟨_, aa, cc, bb, dd, qb, rfl, rfl, Hp, (hbs.out.setCell (by have := hKg.out; (try dsimp only); omega) _).setCell (by have := hKg.out; (try dsimp only); omega) _, hKg.out, heap_set (heap_set Kb.out 0 _) 1 _, ?_⟩
           exact dfaBoxed hd.out (by (try simp only [World.size_alloc]); omega) (by (try simp only [World.size_alloc]); omega))
  case rest =>
  obtain ⟨gh, avh, cvh, bvh, dvh, zh, rfl, rfl, hph, hbx, hgh, KH, hvh⟩ := hcut
  obtain ⟨wc4, hw4⟩ : ∃ x, x = wc := ⟨_, rfl⟩
  subst hw4
  clear k00 k01 k10 k11 kl0 kl1
  clear KW_0 KW_1 KW_2 KW_3 KW_l
  clear KX0_0 KX0_1 KX0_2 KX0_3 KX0_l
  clear KX1_0 KX1_1 KX1_2 KX1_3 KX1_l
  clear KG_0 KG_1 KG_2 KG_3 KG_l
  replace HB := Lib.hid (HB.out.trans (hbx.out.mono HB.out.size))
  replace HB3 := Lib.hid (HB3.out.trans (hbx.out.mono HB3.out.size))
  replace KW := Lib.hid (blkBel hbx.out KW.out)
  replace KX0 := Lib.hid (blkBel hbx.out KX0.out)
  replace KX1 := Lib.hid (blkBel hbx.out KX1.out)
  replace KG := Lib.hid (blkBel hbx.out KG.out)
  replace HM := Lib.hid (HM.out.stay (ksB hbx.out))
  clear hbx hgh
  have Hvh := Lib.hid hvh.out; clear hvh
  obtain rfl := boolEq hph HPw
  clear hph
  obtain ⟨k00, k01, k10, k11⟩ := (KeepK.out _ HB.out).out
  have kl1 : w.heap.size + 1 < wc4.heap.size := Nat.lt_of_lt_of_le hWw HB.out.size
  have kl0 : w.heap.size < wc4.heap.size := by omega
  obtain ⟨KW_0, KW_1, KW_2, KW_3⟩ := blk2 KW.out
  have KW_l := (Array.getElem?_eq_some_iff.1 KW.out).1
  obtain ⟨KX0_0, KX0_1, KX0_2, KX0_3⟩ := blk2 KX0.out
  have KX0_l := (Array.getElem?_eq_some_iff.1 KX0.out).1
  obtain ⟨KX1_0, KX1_1, KX1_2, KX1_3⟩ := blk2 KX1.out
  have KX1_l := (Array.getElem?_eq_some_iff.1 KX1.out).1
  obtain ⟨KG_0, KG_1, KG_2, KG_3⟩ := blk2 KG.out
  have KG_l := (Array.getElem?_eq_some_iff.1 KG.out).1
  obtain ⟨KH_0, KH_1, KH_2, KH_3⟩ := blk2 KH.out
  have KH_l := (Array.getElem?_eq_some_iff.1 KH.out).1
  skip
  go_wp2_with fail
  clear k00 k01 k10 k11 kl0 kl1
  clear KW_0 KW_1 KW_2 KW_3 KW_l
  clear KX0_0 KX0_1 KX0_2 KX0_3 KX0_l
  clear KX1_0 KX1_1 KX1_2 KX1_3 KX1_l
  clear KG_0 KG_1 KG_2 KG_3 KG_l
  clear KH_0 KH_1 KH_2 KH_3 KH_l
  refine (eqDfa_c _ _ _ _ q _ Hvh.out.rd (HW3.out.stay (kpL HB3.out))).mono ?_
  rintro e w15 ⟨bq, rfl, hb, hq0⟩
  cases bq
  · exact (hbF hq0 trivial).elim
  clear hq0
  replace HB := Lib.hid (HB.out.trans (hb.mono HB.out.size))
  replace HB3 := Lib.hid (HB3.out.trans (hb.mono HB3.out.size))
  replace KW := Lib.hid (blkBel hb KW.out)
  replace KX0 := Lib.hid (blkBel hb KX0.out)
  replace KX1 := Lib.hid (blkBel hb KX1.out)
  replace KG := Lib.hid (blkBel hb KG.out)
  replace HM := Lib.hid (HM.out.stay (ksB hb))
  replace KH := Lib.hid (blkBel hb KH.out)
  replace Hvh := Lib.hid (Hvh.out.stay (ksB hb))
  clear hb
  obtain ⟨k00, k01, k10, k11⟩ := (KeepK.out _ HB.out).out
  have kl1 : w.heap.size + 1 < w15.heap.size := Nat.lt_of_lt_of_le hWw HB.out.size
  have kl0 : w.heap.size < w15.heap.size := by omega
  obtain ⟨KW_0, KW_1, KW_2, KW_3⟩ := blk2 KW.out
  have KW_l := (Array.getElem?_eq_some_iff.1 KW.out).1
  obtain ⟨KX0_0, KX0_1, KX0_2, KX0_3⟩ := blk2 KX0.out
  have KX0_l := (Array.getElem?_eq_some_iff.1 KX0.out).1
  obtain ⟨KX1_0, KX1_1, KX1_2, KX1_3⟩ := blk2 KX1.out
  have KX1_l := (Array.getElem?_eq_some_iff.1 KX1.out).1
  obtain ⟨KG_0, KG_1, KG_2, KG_3⟩ := blk2 KG.out
  have KG_l := (Array.getElem?_eq_some_iff.1 KG.out).1
  obtain ⟨KH_0, KH_1, KH_2, KH_3⟩ := blk2 KH.out
  have KH_l := (Array.getElem?_eq_some_iff.1 KH.out).1
  clear Hvh
  go_wp2_with fail
  clear k00 k01 k10 k11 kl0 kl1
  clear KW_0 KW_1 KW_2 KW_3 KW_l
  clear KX0_0 KX0_1 KX0_2 KX0_3 KX0_l
  clear KX1_0 KX1_1 KX1_2 KX1_3 KX1_l
  clear KG_0 KG_1 KG_2 KG_3 KG_l
  clear KH_0 KH_1 KH_2 KH_3 KH_l
  refine (heldDfa_f _ _ q 1 _ HM.out.rd (by omega) HSmall.out).mono ?_
  rintro e w16 ⟨rfl, hb⟩
  replace HB := Lib.hid (HB.out.trans (hb.mono HB.out.size))
  replace HB3 := Lib.hid (HB3.out.trans (hb.mono HB3.out.size))
  replace KW := Lib.hid (blkBel hb KW.out)
  replace KX0 := Lib.hid (blkBel hb KX0.out)
  replace KX1 := Lib.hid (blkBel hb KX1.out)
  replace KG := Lib.hid (blkBel hb KG.out)
  replace HM := Lib.hid (HM.out.stay (ksB hb))
  replace KH := Lib.hid (blkBel hb KH.out)
  clear hb
  rw [← hkr]
  obtain ⟨k00, k01, k10, k11⟩ := (KeepK.out _ HB.out).out
  have kl1 : w.heap.size + 1 < w16.heap.size := Nat.lt_of_lt_of_le hWw HB.out.size
  have kl0 : w.heap.size < w16.heap.size := by omega
  obtain ⟨KW_0, KW_1, KW_2, KW_3⟩ := blk2 KW.out
  have KW_l := (Array.getElem?_eq_some_iff.1 KW.out).1
  obtain ⟨KX0_0, KX0_1, KX0_2, KX0_3⟩ := blk2 KX0.out
  have KX0_l := (Array.getElem?_eq_some_iff.1 KX0.out).1
  obtain ⟨KX1_0, KX1_1, KX1_2, KX1_3⟩ := blk2 KX1.out
  have KX1_l := (Array.getElem?_eq_some_iff.1 KX1.out).1
  obtain ⟨KG_0, KG_1, KG_2, KG_3⟩ := blk2 KG.out
  have KG_l := (Array.getElem?_eq_some_iff.1 KG.out).1
  obtain ⟨KH_0, KH_1, KH_2, KH_3⟩ := blk2 KH.out
  have KH_l := (Array.getElem?_eq_some_iff.1 KH.out).1
  clear k00 k01 k10 k11 kl0 kl1
  clear KW_0 KW_1 KW_2 KW_3 KW_l
  clear KX0_0 KX0_1 KX0_2 KX0_3 KX0_l
  clear KX1_0 KX1_1 KX1_2 KX1_3 KX1_l
  clear KG_0 KG_1 KG_2 KG_3 KG_l
  clear KH_0 KH_1 KH_2 KH_3 KH_l
  have hfin := HB0.out.trans (HB.out.mono HB0.out.size)
  go_wp2
  go_ret
  exact ⟨rfl, hfin⟩
end Go.Proofs.Ytofamhgkiipagaa.fnExactDfaLess
