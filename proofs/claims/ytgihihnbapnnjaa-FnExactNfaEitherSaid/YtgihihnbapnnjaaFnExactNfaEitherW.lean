/- FnExactNfaEither answers true: the walk. -/
import Derived.Test.YtgihihnbapnnjaaEil
import Derived.Test.YtgihihnbapnnjaaGC
import Derived.Test.YtgihihnbapnnjaaNfp
import Derived.Deep.RegionHeld3
import Derived.Deep.DeepCutAuto
set_option linter.unusedSimpArgs false
set_option linter.unusedVariables false
set_option linter.unusedSectionVars false
namespace Go.Proofs.Ytgihihnbapnnjaa.fnExactNfaEither
open Go.RowKit
set_option maxRecDepth 100000

set_option maxHeartbeats 2000000 in
theorem walk (w : World) (vm0 vn0 ve0 : Value) (D0 : NfaD) (h0 : NfaR (fun _ => True) w vm0 vn0 ve0 D0) (vm1 vn1 ve1 : Value) (D1 : NfaD) (h1 : NfaR (fun _ => True) w vm1 vn1 ve1 D1) :
    Calls Try.prog 9 #[.agg #[.int .i64 D0.states, vm0, vn0, ve0], .agg #[.int .i64 D1.states, vm1, vn1, ve1]] w (Yes w) := by
  obtain ⟨a0, c0, b0, d0, f0, g0, rfl, rfl, rfl, hn0, hm0, hl0⟩ := h0.shapes
  obtain ⟨a1, c1, b1, d1, f1, g1, rfl, rfl, rfl, hn1, hm1, hl1⟩ := h1.shapes
  obtain ⟨W, hW⟩ : ∃ W, W = (w.alloc (.cells #[.int .i64 D0.states, .slice a0 D0.moves.length c0, .slice b0 D0.firsts.length d0, .slice f0 D0.ends.length g0] 42)).alloc (.cells #[.int .i64 D1.states, .slice a1 D1.moves.length c1, .slice b1 D1.firsts.length d1, .slice f1 D1.ends.length g1] 42) := ⟨_, rfl⟩
  have HB0 : Hid (Below w.heap.size w W) := by rw [hW]; exact ((Below.refl _ _).alloc (Nat.le_refl _) _).alloc (by simp) _
  have K0 : Hid (W.heap[w.heap.size]? = some (.cells #[.int .i64 D0.states, .slice a0 D0.moves.length c0, .slice b0 D0.firsts.length d0, .slice f0 D0.ends.length g0] 42 (0, 0))) := by rw [hW]; exact blkOld (blkNew _ _ (by simp))
  have K1 : Hid (W.heap[w.heap.size + 1]? = some (.cells #[.int .i64 D1.states, .slice a1 D1.moves.length c1, .slice b1 D1.firsts.length d1, .slice f1 D1.ends.length g1] 42 (0, 0))) := by rw [hW]; exact blkNew _ _ (by simp)
  have hWw : w.heap.size + 2 ≤ W.heap.size := by rw [hW]; simp
  have H0 := Lib.hid (h0.stay (kpB HB0.out)); clear h0
  have H1 := Lib.hid (h1.stay (kpB HB0.out)); clear h1
  have HW := Lib.hid hW; clear hW
  go_enter Try.func9, Try.ntmps9
  have HB : Hid (Below W.heap.size W W) := Below.refl _ _
  go_wp2_with fail
  rw [← HW.out]
  refine (szNfa_c _ _ _ D0 _ _ (H0.out.stay (kpB HB.out)) (by omega) (by omega)).mono ?_
  rintro e w1 ⟨m0, rfl, hb, hm⟩
  replace HB := Lib.hid (HB.out.trans (hb.mono HB.out.size))
  replace K0 := Lib.hid (blkBel hb K0.out)
  replace K1 := Lib.hid (blkBel hb K1.out)
  clear hb
  obtain ⟨K0_0, K0_1, K0_2, K0_3⟩ := blk4 K0.out
  have K0_l : w.heap.size < w1.heap.size := (Array.getElem?_eq_some_iff.1 K0.out).1
  obtain ⟨K1_0, K1_1, K1_2, K1_3⟩ := blk4 K1.out
  have K1_l : w.heap.size + 1 < w1.heap.size := (Array.getElem?_eq_some_iff.1 K1.out).1
  rcases hm.out with rfl | ⟨hm0_0, hm1_0, hsml0⟩
  · clear hm
    go_wp2
    go_ret
    exact ⟨rfl, HB0.out.trans (HB.out.mono HB0.out.size)⟩
  have HSM0 := Lib.hid hsml0; clear hsml0 hm
  clear K0_0 K0_1 K0_2 K0_3 K0_l K1_0 K1_1 K1_2 K1_3 K1_l
  obtain ⟨K0_0, K0_1, K0_2, K0_3⟩ := blk4 K0.out
  have K0_l : w.heap.size < w1.heap.size := (Array.getElem?_eq_some_iff.1 K0.out).1
  obtain ⟨K1_0, K1_1, K1_2, K1_3⟩ := blk4 K1.out
  have K1_l : w.heap.size + 1 < w1.heap.size := (Array.getElem?_eq_some_iff.1 K1.out).1
  go_wp2_with fail
  clear K0_0 K0_1 K0_2 K0_3 K0_l K1_0 K1_1 K1_2 K1_3 K1_l
  refine (szNfa_c _ _ _ D1 _ _ (H1.out.stay (kpB HB.out)) (by omega) (by omega)).mono ?_
  rintro e w2 ⟨m1, rfl, hb, hm⟩
  replace HB := Lib.hid (HB.out.trans (hb.mono HB.out.size))
  replace K0 := Lib.hid (blkBel hb K0.out)
  replace K1 := Lib.hid (blkBel hb K1.out)
  clear hb
  obtain ⟨K0_0, K0_1, K0_2, K0_3⟩ := blk4 K0.out
  have K0_l : w.heap.size < w2.heap.size := (Array.getElem?_eq_some_iff.1 K0.out).1
  obtain ⟨K1_0, K1_1, K1_2, K1_3⟩ := blk4 K1.out
  have K1_l : w.heap.size + 1 < w2.heap.size := (Array.getElem?_eq_some_iff.1 K1.out).1
  rcases hm.out with rfl | ⟨hm0_1, hm1_1, hsml1⟩
  · clear hm
    go_wp2
    go_ret
    exact ⟨rfl, HB0.out.trans (HB.out.mono HB0.out.size)⟩
  have HSM1 := Lib.hid hsml1; clear hsml1 hm
  clear K0_0 K0_1 K0_2 K0_3 K0_l K1_0 K1_1 K1_2 K1_3 K1_l
  obtain ⟨K0_0, K0_1, K0_2, K0_3⟩ := blk4 K0.out
  have K0_l : w.heap.size < w2.heap.size := (Array.getElem?_eq_some_iff.1 K0.out).1
  obtain ⟨K1_0, K1_1, K1_2, K1_3⟩ := blk4 K1.out
  have K1_l : w.heap.size + 1 < w2.heap.size := (Array.getElem?_eq_some_iff.1 K1.out).1
  skip
  have HSmall : Hid (smallW (eiN D0 D1)) := eiSmall D0 D1
  obtain ⟨q, hq⟩ : ∃ q : NfaD, Hid (eiN D0 D1 = q) := ⟨_, rfl⟩
  rw [hq.out] at HSmall
  obtain ⟨x, hx⟩ : ∃ x, x = q.states := ⟨_, rfl⟩
  have Hx := Lib.hid hx; clear hx
  obtain ⟨zb, hzb⟩ : ∃ b : Bool, Hid (eiB D0 D1 = b) := ⟨_, rfl⟩
  have hneb := bneSelf zb
  have KeepK : Hid (∀ w', Below w2.heap.size w2 w' → w'.cell? ⟨w.heap.size, 0, none⟩ = some (.int .i64 D0.states) ∧ w'.cell? ⟨w.heap.size, 1, none⟩ = some (.slice a0 D0.moves.length c0) ∧ w'.cell? ⟨w.heap.size, 2, none⟩ = some (.slice b0 D0.firsts.length d0) ∧ w'.cell? ⟨w.heap.size, 3, none⟩ = some (.slice f0 D0.ends.length g0) ∧ w'.cell? ⟨w.heap.size + 1, 0, none⟩ = some (.int .i64 D1.states) ∧ w'.cell? ⟨w.heap.size + 1, 1, none⟩ = some (.slice a1 D1.moves.length c1) ∧ w'.cell? ⟨w.heap.size + 1, 2, none⟩ = some (.slice b1 D1.firsts.length d1) ∧ w'.cell? ⟨w.heap.size + 1, 3, none⟩ = some (.slice f1 D1.ends.length g1)) := fun w' hb => by
    have h0 := blk4 (blkBel hb K0.out); have h1 := blk4 (blkBel hb K1.out)
    exact ⟨h0.1, h0.2.1, h0.2.2.1, h0.2.2.2, h1.1, h1.2.1, h1.2.2.1, h1.2.2.2⟩
  go_wp2_with fail
  go_cut [6, 7] (fun s1 s2 wx => ∃ (gw : Nat) (avw : Option Addr) (cvw : Nat) (bvw : Option Addr) (dvw : Nat) (fvw : Option Addr) (gvw : Nat), s1 = .pointer (some ⟨gw, 0, none⟩) ∧ s2 = .bool zb ∧ Hid (Below w2.heap.size w2 wx) ∧ Hid (w2.heap.size ≤ gw) ∧ Hid (wx.heap[gw]? = some (.cells #[.int .i64 x, .slice avw q.moves.length cvw, .slice bvw q.firsts.length dvw, .slice fvw q.ends.length gvw] 46 (0, 0))) ∧ Hid (NfE (fun b => w2.heap.size ≤ b ∧ b < wx.heap.size) wx (.slice avw q.moves.length cvw) (.slice bvw q.firsts.length dvw) (.slice fvw q.ends.length gvw) q))
  case first =>
    have hbs : Hid (Below w2.heap.size w2 w2.drew) := (Below.refl _ _).drew
    go_region_held3 (fun w' => w'.cell? ⟨w.heap.size, 0, none⟩ = some (.int .i64 D0.states) ∧ w'.cell? ⟨w.heap.size, 1, none⟩ = some (.slice a0 D0.moves.length c0) ∧ w'.cell? ⟨w.heap.size, 2, none⟩ = some (.slice b0 D0.firsts.length d0) ∧ w'.cell? ⟨w.heap.size, 3, none⟩ = some (.slice f0 D0.ends.length g0) ∧ w'.cell? ⟨w.heap.size + 1, 0, none⟩ = some (.int .i64 D1.states) ∧ w'.cell? ⟨w.heap.size + 1, 1, none⟩ = some (.slice a1 D1.moves.length c1) ∧ w'.cell? ⟨w.heap.size + 1, 2, none⟩ = some (.slice b1 D1.firsts.length d1) ∧ w'.cell? ⟨w.heap.size + 1, 3, none⟩ = some (.slice f1 D1.ends.length g1))
      (first | exact KeepK.out _ hbs.out | exact KeepK.out _ (hbs.out.alloc hbs.out.size _) | exact KeepK.out _ (bel4 hbs.out hKg.out _ _ _ _))
      (first | (go_at_call_of 33 (Value.agg #[.int .i64 D0.states, .slice a0 D0.moves.length c0, .slice b0 D0.firsts.length d0, .slice f0 D0.ends.length g0]); refine (toNfa_c _ _ _ D0 _ (H0.out.stay (kpB (by first | exact HB.out.trans (hbs.out.mono HB.out.size) | exact HB.out.trans ((hbs.out.alloc hbs.out.size _).mono HB.out.size)))) HSM0.out).mono ?_; rintro e v0 ⟨ym0, yn0, ye0, rfl, hb, hd⟩; (first | (replace hbs := Lib.hid (hbs.out.trans (hb.mono hbs.out.size)); (try (revert Kb; intro Kb; replace Kb := Lib.hid (blkBel hb Kb.out)))) | (have Kb := Lib.hid (blkBel hb (blkNew _ _ rfl)); have hKg := Lib.hid hbs.out.size; replace hbs := Lib.hid ((hbs.out.alloc hbs.out.size _).trans (hb.mono (hbs.out.alloc hbs.out.size _).size)))); have HXy0 := Lib.hid hd.out.rd; clear hd hb) | (go_at_call_of 33 (Value.agg #[.int .i64 D1.states, .slice a1 D1.moves.length c1, .slice b1 D1.firsts.length d1, .slice f1 D1.ends.length g1]); refine (toNfa_c _ _ _ D1 _ (H1.out.stay (kpB (by first | exact HB.out.trans (hbs.out.mono HB.out.size) | exact HB.out.trans ((hbs.out.alloc hbs.out.size _).mono HB.out.size)))) HSM1.out).mono ?_; rintro e v1 ⟨ym1, yn1, ye1, rfl, hb, hd⟩; (first | (replace hbs := Lib.hid (hbs.out.trans (hb.mono hbs.out.size)); (try (revert Kb; intro Kb; replace Kb := Lib.hid (blkBel hb Kb.out)))) | (have Kb := Lib.hid (blkBel hb (blkNew _ _ rfl)); have hKg := Lib.hid hbs.out.size; replace hbs := Lib.hid ((hbs.out.alloc hbs.out.size _).trans (hb.mono (hbs.out.alloc hbs.out.size _).size)))); (first | replace HXy0 := Lib.hid (HXy0.out.stay (kpB hb)) | replace HXy0 := Lib.hid ((HXy0.out.stay kpAlloc).stay (kpB hb))); have HXy1 := Lib.hid hd.out.rd; clear hd hb) | (go_at_call 48; refine (sNfaEither_l _ _ _ D0 _ _ _ D1 _ (by first | exact HXy0.out | exact HXy0.out.stay kpAlloc) (by first | exact HXy1.out | exact HXy1.out.stay kpAlloc)).mono ?_; rintro e v9 ⟨q1, q2, q3, rfl, hb, hd⟩; have hzr := hbs.out.size; rw [hq.out] at hd ⊢; rw [← Hx.out, hzb.out]; obtain ⟨aa, cc, bb, dd, ff, gg, rfl, rfl, rfl, _, _, _⟩ := hd.out.w.rd.shapes; (first | (replace hbs := Lib.hid (hbs.out.trans (hb.mono hbs.out.size)); (try (revert Kb; intro Kb; replace Kb := Lib.hid (blkBel hb Kb.out)))) | (have Kb := Lib.hid (blkBel hb (blkNew _ _ rfl)); have hKg := Lib.hid hbs.out.size; replace hbs := Lib.hid ((hbs.out.alloc hbs.out.size _).trans (hb.mono (hbs.out.alloc hbs.out.size _).size)))); (try (revert Kb; intro Kb; obtain ⟨kb0, kb1, kb2, kb3⟩ := blk4 Kb.out; have kbf := blkFz Kb.out))))
    all_goals
      go_wp2_with fail
      go_meet
      have hdd := hd.out.base (base' := w2.heap.size) (by (try simp only [World.size_alloc]); omega)
      first
        | (refine ⟨v9.heap.size, aa, cc, bb, dd, ff, gg, rfl, rfl, hbs.out.alloc hbs.out.size _, hbs.out.size, blkNew _ _ rfl, ?_⟩
           exact (hdd.stay ((Below.refl _ _).alloc (Nat.le_refl _) _)).e)
        | (refine ⟨_, aa, cc, bb, dd, ff, gg, rfl, rfl, bel4 hbs.out hKg.out _ _ _ _, hKg.out, blk4s Kb.out, ?_⟩
           exact (hdd.set4 _ (by have := hKg.out; omega) Kb.out (by decide) _ _ _ _).e)
  case rest =>
  obtain ⟨gw, avw, cvw, bvw, dvw, fvw, gvw, rfl, rfl, hbx, hgvw, KW, hvw⟩ := hcut
  obtain ⟨gwx, hwcx⟩ : ∃ z, z = wc := ⟨_, rfl⟩
  subst hwcx
  clear KeepK
  clear K0_0 K0_1 K0_2 K0_3 K0_l K1_0 K1_1 K1_2 K1_3 K1_l
  replace HB := Lib.hid (HB.out.trans (hbx.out.mono HB.out.size))
  replace K0 := Lib.hid (blkBel hbx.out K0.out)
  replace K1 := Lib.hid (blkBel hbx.out K1.out)
  have hzvw := hbx.out.size; clear hbx
  have Hvw := Lib.hid hvw.out; clear hvw
  have HB3 : Hid (Below gwx.heap.size gwx gwx) := Below.refl _ _
  have HW3 := Lib.hid ((NfaR.inHeap Hvw.out.rd).mono (T := (· < gwx.heap.size)) (fun b h => h.2)); clear Hvw
  obtain ⟨K0_0, K0_1, K0_2, K0_3⟩ := blk4 K0.out
  have K0_l : w.heap.size < gwx.heap.size := (Array.getElem?_eq_some_iff.1 K0.out).1
  obtain ⟨K1_0, K1_1, K1_2, K1_3⟩ := blk4 K1.out
  have K1_l : w.heap.size + 1 < gwx.heap.size := (Array.getElem?_eq_some_iff.1 K1.out).1
  obtain ⟨KW_0, KW_1, KW_2, KW_3⟩ := blk4 KW.out
  have KW_l : gw < gwx.heap.size := (Array.getElem?_eq_some_iff.1 KW.out).1
  -- copy 0
  go_wp2_with fail
  clear K0_0 K0_1 K0_2 K0_3 K0_l K1_0 K1_1 K1_2 K1_3 K1_l KW_0 KW_1 KW_2 KW_3 KW_l
  have hWl0 := HB.out.size
  have h3l0 := HB3.out.size
  have hwl0 := (Array.getElem?_eq_some_iff.1 KW.out).1
  refine (toNfa_c _ _ _ D0 _ (H0.out.stay (kpB HB.out)) HSM0.out).mono ?_
  rintro e w3 ⟨xm0, xn0, xe0, rfl, hb, hd⟩
  replace HB := Lib.hid (HB.out.trans (hb.mono HB.out.size))
  replace K0 := Lib.hid (blkBel hb K0.out)
  replace K1 := Lib.hid (blkBel hb K1.out)
  replace KW := Lib.hid (blkBel hb KW.out)
  replace HB3 := Lib.hid (HB3.out.trans (hb.mono HB3.out.size))
  have hzx0 := hb.size; clear hb
  have HXx0 := Lib.hid hd.out; clear hd
  obtain ⟨ax0, cx0, bx0, dx0, fx0, gx0, rfl, rfl, rfl, _, _, _⟩ := HXx0.out.rd.shapes
  obtain ⟨K0_0, K0_1, K0_2, K0_3⟩ := blk4 K0.out
  have K0_l : w.heap.size < w3.heap.size := (Array.getElem?_eq_some_iff.1 K0.out).1
  obtain ⟨K1_0, K1_1, K1_2, K1_3⟩ := blk4 K1.out
  have K1_l : w.heap.size + 1 < w3.heap.size := (Array.getElem?_eq_some_iff.1 K1.out).1
  obtain ⟨KW_0, KW_1, KW_2, KW_3⟩ := blk4 KW.out
  have KW_l : gw < w3.heap.size := (Array.getElem?_eq_some_iff.1 KW.out).1
  obtain ⟨w4, hw4⟩ : ∃ w4, w4 = w3.alloc (.cells #[.int .i64 D0.states, .slice ax0 D0.moves.length cx0, .slice bx0 D0.firsts.length dx0, .slice fx0 D0.ends.length gx0] 46) := ⟨_, rfl⟩
  have hbw4 : Below w3.heap.size w3 w4 := by rw [hw4]; exact (Below.refl _ _).alloc (Nat.le_refl _) _
  have KX0 : Hid (w4.heap[w3.heap.size]? = some (.cells #[.int .i64 D0.states, .slice ax0 D0.moves.length cx0, .slice bx0 D0.firsts.length dx0, .slice fx0 D0.ends.length gx0] 46 (0, 0))) := by rw [hw4]; exact blkNew _ _ rfl
  have Hw4 := Lib.hid hw4; clear hw4
  -- copy 1
  go_wp2_with fail
  rw [← Hw4.out]
  clear K0_0 K0_1 K0_2 K0_3 K0_l K1_0 K1_1 K1_2 K1_3 K1_l KW_0 KW_1 KW_2 KW_3 KW_l
  replace HB := Lib.hid (HB.out.trans (hbw4.mono HB.out.size))
  replace K0 := Lib.hid (blkBel hbw4 K0.out)
  replace K1 := Lib.hid (blkBel hbw4 K1.out)
  replace KW := Lib.hid (blkBel hbw4 KW.out)
  replace HB3 := Lib.hid (HB3.out.trans (hbw4.mono HB3.out.size))
  replace HXx0 := Lib.hid (HXx0.out.stay (ksB hbw4))
  clear hbw4
  have hWl1 := HB.out.size
  have h3l1 := HB3.out.size
  have hwl1 := (Array.getElem?_eq_some_iff.1 KW.out).1
  have hxl01 := (Array.getElem?_eq_some_iff.1 KX0.out).1
  refine (toNfa_c _ _ _ D1 _ (H1.out.stay (kpB HB.out)) HSM1.out).mono ?_
  rintro e w5 ⟨xm1, xn1, xe1, rfl, hb, hd⟩
  replace HB := Lib.hid (HB.out.trans (hb.mono HB.out.size))
  replace K0 := Lib.hid (blkBel hb K0.out)
  replace K1 := Lib.hid (blkBel hb K1.out)
  replace KW := Lib.hid (blkBel hb KW.out)
  replace HB3 := Lib.hid (HB3.out.trans (hb.mono HB3.out.size))
  replace HXx0 := Lib.hid (HXx0.out.stay (ksB hb))
  replace KX0 := Lib.hid (blkBel hb KX0.out)
  have hzx1 := hb.size; clear hb
  have HXx1 := Lib.hid hd.out; clear hd
  obtain ⟨ax1, cx1, bx1, dx1, fx1, gx1, rfl, rfl, rfl, _, _, _⟩ := HXx1.out.rd.shapes
  obtain ⟨K0_0, K0_1, K0_2, K0_3⟩ := blk4 K0.out
  have K0_l : w.heap.size < w5.heap.size := (Array.getElem?_eq_some_iff.1 K0.out).1
  obtain ⟨K1_0, K1_1, K1_2, K1_3⟩ := blk4 K1.out
  have K1_l : w.heap.size + 1 < w5.heap.size := (Array.getElem?_eq_some_iff.1 K1.out).1
  obtain ⟨KW_0, KW_1, KW_2, KW_3⟩ := blk4 KW.out
  have KW_l : gw < w5.heap.size := (Array.getElem?_eq_some_iff.1 KW.out).1
  obtain ⟨KX0_0, KX0_1, KX0_2, KX0_3⟩ := blk4 KX0.out
  have KX0_l : w3.heap.size < w5.heap.size := (Array.getElem?_eq_some_iff.1 KX0.out).1
  obtain ⟨w6, hw6⟩ : ∃ w6, w6 = w5.alloc (.cells #[.int .i64 D1.states, .slice ax1 D1.moves.length cx1, .slice bx1 D1.firsts.length dx1, .slice fx1 D1.ends.length gx1] 46) := ⟨_, rfl⟩
  have hbw6 : Below w5.heap.size w5 w6 := by rw [hw6]; exact (Below.refl _ _).alloc (Nat.le_refl _) _
  have KX1 : Hid (w6.heap[w5.heap.size]? = some (.cells #[.int .i64 D1.states, .slice ax1 D1.moves.length cx1, .slice bx1 D1.firsts.length dx1, .slice fx1 D1.ends.length gx1] 46 (0, 0))) := by rw [hw6]; exact blkNew _ _ rfl
  have Hw6 := Lib.hid hw6; clear hw6
  go_wp2_with fail
  rw [← Hw6.out]
  clear K0_0 K0_1 K0_2 K0_3 K0_l K1_0 K1_1 K1_2 K1_3 K1_l KW_0 KW_1 KW_2 KW_3 KW_l KX0_0 KX0_1 KX0_2 KX0_3 KX0_l
  replace HB := Lib.hid (HB.out.trans (hbw6.mono HB.out.size))
  replace K0 := Lib.hid (blkBel hbw6 K0.out)
  replace K1 := Lib.hid (blkBel hbw6 K1.out)
  replace KW := Lib.hid (blkBel hbw6 KW.out)
  replace HB3 := Lib.hid (HB3.out.trans (hbw6.mono HB3.out.size))
  replace HXx0 := Lib.hid (HXx0.out.stay (ksB hbw6))
  replace KX0 := Lib.hid (blkBel hbw6 KX0.out)
  replace HXx1 := Lib.hid (HXx1.out.stay (ksB hbw6))
  clear hbw6
  have hWg := HB.out.size
  have h3g := HB3.out.size
  have hxg0 := (Array.getElem?_eq_some_iff.1 KX0.out).1
  have hxg1 := (Array.getElem?_eq_some_iff.1 KX1.out).1
  have hwg := (Array.getElem?_eq_some_iff.1 KW.out).1
  refine (NfaEither_l _ _ _ D0 _ _ _ D1 _ HXx0.out.rd HXx1.out.rd).mono ?_
  rintro e w7 ⟨vg1, vg2, vg3, rfl, hb, hvg⟩
  rw [hq.out] at hvg ⊢
  rw [← Hx.out]
  rw [hzb.out]
  have hzvg := hb.size
  replace HB := Lib.hid (HB.out.trans (hb.mono HB.out.size))
  replace K0 := Lib.hid (blkBel hb K0.out)
  replace K1 := Lib.hid (blkBel hb K1.out)
  replace KW := Lib.hid (blkBel hb KW.out)
  replace HB3 := Lib.hid (HB3.out.trans (hb.mono HB3.out.size))
  replace HXx0 := Lib.hid (HXx0.out.stay (ksB hb))
  replace KX0 := Lib.hid (blkBel hb KX0.out)
  replace HXx1 := Lib.hid (HXx1.out.stay (ksB hb))
  replace KX1 := Lib.hid (blkBel hb KX1.out)
  clear hb
  have Hvg := Lib.hid hvg.out.e; clear hvg
  obtain ⟨avg, cvg, bvg, dvg, fvg, gvg, rfl, rfl, rfl, _, _, _⟩ := Hvg.out.rd.shapes
  obtain ⟨K0_0, K0_1, K0_2, K0_3⟩ := blk4 K0.out
  have K0_l : w.heap.size < w7.heap.size := (Array.getElem?_eq_some_iff.1 K0.out).1
  obtain ⟨K1_0, K1_1, K1_2, K1_3⟩ := blk4 K1.out
  have K1_l : w.heap.size + 1 < w7.heap.size := (Array.getElem?_eq_some_iff.1 K1.out).1
  obtain ⟨KW_0, KW_1, KW_2, KW_3⟩ := blk4 KW.out
  have KW_l : gw < w7.heap.size := (Array.getElem?_eq_some_iff.1 KW.out).1
  obtain ⟨KX0_0, KX0_1, KX0_2, KX0_3⟩ := blk4 KX0.out
  have KX0_l : w3.heap.size < w7.heap.size := (Array.getElem?_eq_some_iff.1 KX0.out).1
  obtain ⟨KX1_0, KX1_1, KX1_2, KX1_3⟩ := blk4 KX1.out
  have KX1_l : w5.heap.size < w7.heap.size := (Array.getElem?_eq_some_iff.1 KX1.out).1
  obtain ⟨w8, hw8⟩ : ∃ w8, w8 = w7.alloc (.cells #[.int .i64 x, .slice avg q.moves.length cvg, .slice bvg q.firsts.length dvg, .slice fvg q.ends.length gvg] 46) := ⟨_, rfl⟩
  have hbw8 : Below w7.heap.size w7 w8 := by rw [hw8]; exact (Below.refl _ _).alloc (Nat.le_refl _) _
  have KG : Hid (w8.heap[w7.heap.size]? = some (.cells #[.int .i64 x, .slice avg q.moves.length cvg, .slice bvg q.firsts.length dvg, .slice fvg q.ends.length gvg] 46 (0, 0))) := by rw [hw8]; exact blkNew _ _ rfl
  have Hw8 := Lib.hid hw8; clear hw8
  go_wp2_with fail
  rw [← Hw8.out]
  clear K0_0 K0_1 K0_2 K0_3 K0_l K1_0 K1_1 K1_2 K1_3 K1_l KW_0 KW_1 KW_2 KW_3 KW_l KX0_0 KX0_1 KX0_2 KX0_3 KX0_l KX1_0 KX1_1 KX1_2 KX1_3 KX1_l
  replace HB := Lib.hid (HB.out.trans (hbw8.mono HB.out.size))
  replace K0 := Lib.hid (blkBel hbw8 K0.out)
  replace K1 := Lib.hid (blkBel hbw8 K1.out)
  replace KW := Lib.hid (blkBel hbw8 KW.out)
  replace HB3 := Lib.hid (HB3.out.trans (hbw8.mono HB3.out.size))
  replace HXx0 := Lib.hid (HXx0.out.stay (ksB hbw8))
  replace KX0 := Lib.hid (blkBel hbw8 KX0.out)
  replace HXx1 := Lib.hid (HXx1.out.stay (ksB hbw8))
  replace KX1 := Lib.hid (blkBel hbw8 KX1.out)
  replace Hvg := Lib.hid (Hvg.out.stay hbw8.size (ksB hbw8))
  clear hbw8
  refine (eqNfa_e x _ _ _ _ _ _ q _ Hx Hvg.out.rd (HW3.out.stay (kpL HB3.out))).mono ?_
  rintro e w9 ⟨bq, rfl, hb, hq0⟩
  cases bq
  · exact (hbF hq0 trivial).elim
  clear hq0
  replace HB := Lib.hid (HB.out.trans (hb.mono HB.out.size))
  replace K0 := Lib.hid (blkBel hb K0.out)
  replace K1 := Lib.hid (blkBel hb K1.out)
  replace KW := Lib.hid (blkBel hb KW.out)
  replace HB3 := Lib.hid (HB3.out.trans (hb.mono HB3.out.size))
  replace HXx0 := Lib.hid (HXx0.out.stay (ksB hb))
  replace KX0 := Lib.hid (blkBel hb KX0.out)
  replace HXx1 := Lib.hid (HXx1.out.stay (ksB hb))
  replace KX1 := Lib.hid (blkBel hb KX1.out)
  replace Hvg := Lib.hid (Hvg.out.stay hb.size (ksB hb))
  replace KG := Lib.hid (blkBel hb KG.out)
  clear hb
  obtain ⟨K0_0, K0_1, K0_2, K0_3⟩ := blk4 K0.out
  have K0_l : w.heap.size < w9.heap.size := (Array.getElem?_eq_some_iff.1 K0.out).1
  obtain ⟨K1_0, K1_1, K1_2, K1_3⟩ := blk4 K1.out
  have K1_l : w.heap.size + 1 < w9.heap.size := (Array.getElem?_eq_some_iff.1 K1.out).1
  obtain ⟨KW_0, KW_1, KW_2, KW_3⟩ := blk4 KW.out
  have KW_l : gw < w9.heap.size := (Array.getElem?_eq_some_iff.1 KW.out).1
  obtain ⟨KX0_0, KX0_1, KX0_2, KX0_3⟩ := blk4 KX0.out
  have KX0_l : w3.heap.size < w9.heap.size := (Array.getElem?_eq_some_iff.1 KX0.out).1
  obtain ⟨KX1_0, KX1_1, KX1_2, KX1_3⟩ := blk4 KX1.out
  have KX1_l : w5.heap.size < w9.heap.size := (Array.getElem?_eq_some_iff.1 KX1.out).1
  obtain ⟨KG_0, KG_1, KG_2, KG_3⟩ := blk4 KG.out
  have KG_l : w7.heap.size < w9.heap.size := (Array.getElem?_eq_some_iff.1 KG.out).1
  go_wp2_with fail
  have HBD : Hid (Below W.heap.size W w9.drew) := HB.out.drew
  have HXD := Lib.hid (HXx0.out.rd.stay (kpB ((Below.refl w9.heap.size w9).drew)))
  go_region_held3 (fun w' => w'.cell? ⟨w.heap.size, 0, none⟩ = some (.int .i64 D0.states) ∧ w'.cell? ⟨w.heap.size, 1, none⟩ = some (.slice a0 D0.moves.length c0) ∧ w'.cell? ⟨w.heap.size, 2, none⟩ = some (.slice b0 D0.firsts.length d0) ∧ w'.cell? ⟨w.heap.size, 3, none⟩ = some (.slice f0 D0.ends.length g0) ∧ w'.cell? ⟨w3.heap.size, 0, none⟩ = some (.int .i64 D0.states) ∧ w'.cell? ⟨w3.heap.size, 1, none⟩ = some (.slice ax0 D0.moves.length cx0) ∧ w'.cell? ⟨w3.heap.size, 2, none⟩ = some (.slice bx0 D0.firsts.length dx0) ∧ w'.cell? ⟨w3.heap.size, 3, none⟩ = some (.slice fx0 D0.ends.length gx0))
    (first | exact ⟨K0_0, K0_1, K0_2, K0_3, KX0_0, KX0_1, KX0_2, KX0_3⟩ | exact ⟨(blk4 (blkBel hb10 K0.out)).1, (blk4 (blkBel hb10 K0.out)).2.1, (blk4 (blkBel hb10 K0.out)).2.2.1, (blk4 (blkBel hb10 K0.out)).2.2.2, (blk4 (blkBel hb10 KX0.out)).1, (blk4 (blkBel hb10 KX0.out)).2.1, (blk4 (blkBel hb10 KX0.out)).2.2.1, (blk4 (blkBel hb10 KX0.out)).2.2.2⟩ | exact ⟨(blk4 (blkBel hb11 (blkBel hb10 K0.out))).1, (blk4 (blkBel hb11 (blkBel hb10 K0.out))).2.1, (blk4 (blkBel hb11 (blkBel hb10 K0.out))).2.2.1, (blk4 (blkBel hb11 (blkBel hb10 K0.out))).2.2.2, (blk4 (blkBel hb11 (blkBel hb10 KX0.out))).1, (blk4 (blkBel hb11 (blkBel hb10 KX0.out))).2.1, (blk4 (blkBel hb11 (blkBel hb10 KX0.out))).2.2.1, (blk4 (blkBel hb11 (blkBel hb10 KX0.out))).2.2.2⟩)
    (first | (go_at_call 33; refine (toNfa_c _ _ _ D0 _ (H0.out.stay (kpB HBD.out)) HSM0.out).mono ?_; rintro e v100 ⟨y1, y2, y3, rfl, hb10, hd10⟩) | (go_at_call 35; refine (eqNfa_c _ _ _ _ _ _ D0 _ (HXD.out.stay (kpB hb10)) hd10.out.rd).mono ?_; rintro e v110 ⟨bq, rfl, hb11, hq0⟩; cases bq; exact (hbF hq0 trivial).elim))
  clear K0_0 K0_1 K0_2 K0_3 K0_l K1_0 K1_1 K1_2 K1_3 K1_l KW_0 KW_1 KW_2 KW_3 KW_l KX0_0 KX0_1 KX0_2 KX0_3 KX0_l KX1_0 KX1_1 KX1_2 KX1_3 KX1_l KG_0 KG_1 KG_2 KG_3 KG_l
  have hb : Below w9.heap.size w9 v110 := ((Below.refl w9.heap.size w9).drew).trans (hb10.trans (hb11.mono hb10.size))
  clear hb10 hb11 HBD HXD hd10
  replace HB := Lib.hid (HB.out.trans (hb.mono HB.out.size))
  replace K0 := Lib.hid (blkBel hb K0.out)
  replace K1 := Lib.hid (blkBel hb K1.out)
  replace KW := Lib.hid (blkBel hb KW.out)
  replace HB3 := Lib.hid (HB3.out.trans (hb.mono HB3.out.size))
  replace HXx0 := Lib.hid (HXx0.out.stay (ksB hb))
  replace KX0 := Lib.hid (blkBel hb KX0.out)
  replace HXx1 := Lib.hid (HXx1.out.stay (ksB hb))
  replace KX1 := Lib.hid (blkBel hb KX1.out)
  replace Hvg := Lib.hid (Hvg.out.stay hb.size (ksB hb))
  replace KG := Lib.hid (blkBel hb KG.out)
  clear hb
  obtain ⟨K0_0, K0_1, K0_2, K0_3⟩ := blk4 K0.out
  have K0_l : w.heap.size < v110.heap.size := (Array.getElem?_eq_some_iff.1 K0.out).1
  obtain ⟨K1_0, K1_1, K1_2, K1_3⟩ := blk4 K1.out
  have K1_l : w.heap.size + 1 < v110.heap.size := (Array.getElem?_eq_some_iff.1 K1.out).1
  obtain ⟨KW_0, KW_1, KW_2, KW_3⟩ := blk4 KW.out
  have KW_l : gw < v110.heap.size := (Array.getElem?_eq_some_iff.1 KW.out).1
  obtain ⟨KX0_0, KX0_1, KX0_2, KX0_3⟩ := blk4 KX0.out
  have KX0_l : w3.heap.size < v110.heap.size := (Array.getElem?_eq_some_iff.1 KX0.out).1
  obtain ⟨KX1_0, KX1_1, KX1_2, KX1_3⟩ := blk4 KX1.out
  have KX1_l : w5.heap.size < v110.heap.size := (Array.getElem?_eq_some_iff.1 KX1.out).1
  obtain ⟨KG_0, KG_1, KG_2, KG_3⟩ := blk4 KG.out
  have KG_l : w7.heap.size < v110.heap.size := (Array.getElem?_eq_some_iff.1 KG.out).1
  go_wp2_with fail
  have HBD : Hid (Below W.heap.size W v110.drew) := HB.out.drew
  have HXD := Lib.hid (HXx1.out.rd.stay (kpB ((Below.refl v110.heap.size v110).drew)))
  go_region_held3 (fun w' => w'.cell? ⟨w.heap.size + 1, 0, none⟩ = some (.int .i64 D1.states) ∧ w'.cell? ⟨w.heap.size + 1, 1, none⟩ = some (.slice a1 D1.moves.length c1) ∧ w'.cell? ⟨w.heap.size + 1, 2, none⟩ = some (.slice b1 D1.firsts.length d1) ∧ w'.cell? ⟨w.heap.size + 1, 3, none⟩ = some (.slice f1 D1.ends.length g1) ∧ w'.cell? ⟨w5.heap.size, 0, none⟩ = some (.int .i64 D1.states) ∧ w'.cell? ⟨w5.heap.size, 1, none⟩ = some (.slice ax1 D1.moves.length cx1) ∧ w'.cell? ⟨w5.heap.size, 2, none⟩ = some (.slice bx1 D1.firsts.length dx1) ∧ w'.cell? ⟨w5.heap.size, 3, none⟩ = some (.slice fx1 D1.ends.length gx1))
    (first | exact ⟨K1_0, K1_1, K1_2, K1_3, KX1_0, KX1_1, KX1_2, KX1_3⟩ | exact ⟨(blk4 (blkBel hb10 K1.out)).1, (blk4 (blkBel hb10 K1.out)).2.1, (blk4 (blkBel hb10 K1.out)).2.2.1, (blk4 (blkBel hb10 K1.out)).2.2.2, (blk4 (blkBel hb10 KX1.out)).1, (blk4 (blkBel hb10 KX1.out)).2.1, (blk4 (blkBel hb10 KX1.out)).2.2.1, (blk4 (blkBel hb10 KX1.out)).2.2.2⟩ | exact ⟨(blk4 (blkBel hb11 (blkBel hb10 K1.out))).1, (blk4 (blkBel hb11 (blkBel hb10 K1.out))).2.1, (blk4 (blkBel hb11 (blkBel hb10 K1.out))).2.2.1, (blk4 (blkBel hb11 (blkBel hb10 K1.out))).2.2.2, (blk4 (blkBel hb11 (blkBel hb10 KX1.out))).1, (blk4 (blkBel hb11 (blkBel hb10 KX1.out))).2.1, (blk4 (blkBel hb11 (blkBel hb10 KX1.out))).2.2.1, (blk4 (blkBel hb11 (blkBel hb10 KX1.out))).2.2.2⟩)
    (first | (go_at_call 33; refine (toNfa_c _ _ _ D1 _ (H1.out.stay (kpB HBD.out)) HSM1.out).mono ?_; rintro e v101 ⟨y1, y2, y3, rfl, hb10, hd10⟩) | (go_at_call 35; refine (eqNfa_c _ _ _ _ _ _ D1 _ (HXD.out.stay (kpB hb10)) hd10.out.rd).mono ?_; rintro e v111 ⟨bq, rfl, hb11, hq0⟩; cases bq; exact (hbF hq0 trivial).elim))
  clear K0_0 K0_1 K0_2 K0_3 K0_l K1_0 K1_1 K1_2 K1_3 K1_l KW_0 KW_1 KW_2 KW_3 KW_l KX0_0 KX0_1 KX0_2 KX0_3 KX0_l KX1_0 KX1_1 KX1_2 KX1_3 KX1_l KG_0 KG_1 KG_2 KG_3 KG_l
  have hb : Below v110.heap.size v110 v111 := ((Below.refl v110.heap.size v110).drew).trans (hb10.trans (hb11.mono hb10.size))
  clear hb10 hb11 HBD HXD hd10
  replace HB := Lib.hid (HB.out.trans (hb.mono HB.out.size))
  replace K0 := Lib.hid (blkBel hb K0.out)
  replace K1 := Lib.hid (blkBel hb K1.out)
  replace KW := Lib.hid (blkBel hb KW.out)
  replace HB3 := Lib.hid (HB3.out.trans (hb.mono HB3.out.size))
  replace HXx0 := Lib.hid (HXx0.out.stay (ksB hb))
  replace KX0 := Lib.hid (blkBel hb KX0.out)
  replace HXx1 := Lib.hid (HXx1.out.stay (ksB hb))
  replace KX1 := Lib.hid (blkBel hb KX1.out)
  replace Hvg := Lib.hid (Hvg.out.stay hb.size (ksB hb))
  replace KG := Lib.hid (blkBel hb KG.out)
  clear hb
  obtain ⟨K0_0, K0_1, K0_2, K0_3⟩ := blk4 K0.out
  have K0_l : w.heap.size < v111.heap.size := (Array.getElem?_eq_some_iff.1 K0.out).1
  obtain ⟨K1_0, K1_1, K1_2, K1_3⟩ := blk4 K1.out
  have K1_l : w.heap.size + 1 < v111.heap.size := (Array.getElem?_eq_some_iff.1 K1.out).1
  obtain ⟨KW_0, KW_1, KW_2, KW_3⟩ := blk4 KW.out
  have KW_l : gw < v111.heap.size := (Array.getElem?_eq_some_iff.1 KW.out).1
  obtain ⟨KX0_0, KX0_1, KX0_2, KX0_3⟩ := blk4 KX0.out
  have KX0_l : w3.heap.size < v111.heap.size := (Array.getElem?_eq_some_iff.1 KX0.out).1
  obtain ⟨KX1_0, KX1_1, KX1_2, KX1_3⟩ := blk4 KX1.out
  have KX1_l : w5.heap.size < v111.heap.size := (Array.getElem?_eq_some_iff.1 KX1.out).1
  obtain ⟨KG_0, KG_1, KG_2, KG_3⟩ := blk4 KG.out
  have KG_l : w7.heap.size < v111.heap.size := (Array.getElem?_eq_some_iff.1 KG.out).1
  have htt0 := HSM0.out.1; have htu0 := HSM0.out.2.1; have htl0 := HSM0.out.2.2
  have htt1 := HSM1.out.1; have htu1 := HSM1.out.2.1; have htl1 := HSM1.out.2.2
  go_wp2_with fail
  clear K0_0 K0_1 K0_2 K0_3 K0_l K1_0 K1_1 K1_2 K1_3 K1_l KW_0 KW_1 KW_2 KW_3 KW_l KX0_0 KX0_1 KX0_2 KX0_3 KX0_l KX1_0 KX1_1 KX1_2 KX1_3 KX1_l KG_0 KG_1 KG_2 KG_3 KG_l
  have hsz0 : ∀ b : Nat, (gwx.heap.size ≤ b ∧ b < w3.heap.size) → b < v111.heap.size := fun b hb => by have := hb.2; have := (Array.getElem?_eq_some_iff.1 KX0.out).1; omega
  refine (markNfa_a _ _ _ _ D0 (1) _ HXx0.out hsz0 (by omega) HSM0.out).mono ?_
  rintro e w10 ⟨rfl, hF⟩
  clear hsz0
  clear HXx0
  replace HB := Lib.hid (HB.out.trans (hF.out.low (B := W.heap.size) (fun b h => by have := h.1; omega) HB.out.size))
  replace K0 : Hid (w10.heap[w.heap.size]? = _) := (hF.out.block _ (Array.getElem?_eq_some_iff.1 K0.out).1 (fun h => by have h1 := h.1; have h2 := h.2; omega)).trans K0.out
  replace K1 : Hid (w10.heap[w.heap.size + 1]? = _) := (hF.out.block _ (Array.getElem?_eq_some_iff.1 K1.out).1 (fun h => by have h1 := h.1; have h2 := h.2; omega)).trans K1.out
  replace KW : Hid (w10.heap[gw]? = _) := (hF.out.block _ (Array.getElem?_eq_some_iff.1 KW.out).1 (fun h => by have h1 := h.1; have h2 := h.2; omega)).trans KW.out
  replace HB3 := Lib.hid (HB3.out.trans (hF.out.low (B := gwx.heap.size) (fun b h => by have := h.1; omega) HB3.out.size))
  replace KX0 : Hid (w10.heap[w3.heap.size]? = _) := (hF.out.block _ (Array.getElem?_eq_some_iff.1 KX0.out).1 (fun h => by have h1 := h.1; have h2 := h.2; omega)).trans KX0.out
  replace HXx1 := Lib.hid (HXx1.out.stay (hF.out.ks.mono fun b h1 h2 => by have := h1.1; have := h2.2; omega))
  replace KX1 : Hid (w10.heap[w5.heap.size]? = _) := (hF.out.block _ (Array.getElem?_eq_some_iff.1 KX1.out).1 (fun h => by have h1 := h.1; have h2 := h.2; omega)).trans KX1.out
  replace Hvg := Lib.hid (Hvg.out.stay hF.out.size (hF.out.ks.mono fun b h1 h2 => by have := h1.1; have := h2.2; omega))
  replace KG : Hid (w10.heap[w7.heap.size]? = _) := (hF.out.block _ (Array.getElem?_eq_some_iff.1 KG.out).1 (fun h => by have h1 := h.1; have h2 := h.2; omega)).trans KG.out
  clear hF
  obtain ⟨K0_0, K0_1, K0_2, K0_3⟩ := blk4 K0.out
  have K0_l : w.heap.size < w10.heap.size := (Array.getElem?_eq_some_iff.1 K0.out).1
  obtain ⟨K1_0, K1_1, K1_2, K1_3⟩ := blk4 K1.out
  have K1_l : w.heap.size + 1 < w10.heap.size := (Array.getElem?_eq_some_iff.1 K1.out).1
  obtain ⟨KW_0, KW_1, KW_2, KW_3⟩ := blk4 KW.out
  have KW_l : gw < w10.heap.size := (Array.getElem?_eq_some_iff.1 KW.out).1
  obtain ⟨KX0_0, KX0_1, KX0_2, KX0_3⟩ := blk4 KX0.out
  have KX0_l : w3.heap.size < w10.heap.size := (Array.getElem?_eq_some_iff.1 KX0.out).1
  obtain ⟨KX1_0, KX1_1, KX1_2, KX1_3⟩ := blk4 KX1.out
  have KX1_l : w5.heap.size < w10.heap.size := (Array.getElem?_eq_some_iff.1 KX1.out).1
  obtain ⟨KG_0, KG_1, KG_2, KG_3⟩ := blk4 KG.out
  have KG_l : w7.heap.size < w10.heap.size := (Array.getElem?_eq_some_iff.1 KG.out).1
  obtain ⟨k0, hk0⟩ : ∃ k : Int, k = 1 + 3 * D0.moves.length + D0.firsts.length + D0.ends.length := ⟨_, rfl⟩
  rw [← hk0]
  have hk00 : 1 ≤ k0 := by omega
  have hk10 : k0 ≤ 10000000 := by omega
  clear hk0
  go_wp2_with fail
  clear K0_0 K0_1 K0_2 K0_3 K0_l K1_0 K1_1 K1_2 K1_3 K1_l KW_0 KW_1 KW_2 KW_3 KW_l KX0_0 KX0_1 KX0_2 KX0_3 KX0_l KX1_0 KX1_1 KX1_2 KX1_3 KX1_l KG_0 KG_1 KG_2 KG_3 KG_l
  have hsz1 : ∀ b : Nat, (w4.heap.size ≤ b ∧ b < w5.heap.size) → b < w10.heap.size := fun b hb => by have := hb.2; have := (Array.getElem?_eq_some_iff.1 KX1.out).1; omega
  refine (markNfa_a _ _ _ _ D1 (k0) _ HXx1.out hsz1 (by omega) HSM1.out).mono ?_
  rintro e w11 ⟨rfl, hF⟩
  clear hsz1
  clear HXx1
  replace HB := Lib.hid (HB.out.trans (hF.out.low (B := W.heap.size) (fun b h => by have := h.1; omega) HB.out.size))
  replace K0 : Hid (w11.heap[w.heap.size]? = _) := (hF.out.block _ (Array.getElem?_eq_some_iff.1 K0.out).1 (fun h => by have h1 := h.1; have h2 := h.2; omega)).trans K0.out
  replace K1 : Hid (w11.heap[w.heap.size + 1]? = _) := (hF.out.block _ (Array.getElem?_eq_some_iff.1 K1.out).1 (fun h => by have h1 := h.1; have h2 := h.2; omega)).trans K1.out
  replace KW : Hid (w11.heap[gw]? = _) := (hF.out.block _ (Array.getElem?_eq_some_iff.1 KW.out).1 (fun h => by have h1 := h.1; have h2 := h.2; omega)).trans KW.out
  replace HB3 := Lib.hid (HB3.out.trans (hF.out.low (B := gwx.heap.size) (fun b h => by have := h.1; omega) HB3.out.size))
  replace KX0 : Hid (w11.heap[w3.heap.size]? = _) := (hF.out.block _ (Array.getElem?_eq_some_iff.1 KX0.out).1 (fun h => by have h1 := h.1; have h2 := h.2; omega)).trans KX0.out
  replace KX1 : Hid (w11.heap[w5.heap.size]? = _) := (hF.out.block _ (Array.getElem?_eq_some_iff.1 KX1.out).1 (fun h => by have h1 := h.1; have h2 := h.2; omega)).trans KX1.out
  replace Hvg := Lib.hid (Hvg.out.stay hF.out.size (hF.out.ks.mono fun b h1 h2 => by have := h1.1; have := h2.2; omega))
  replace KG : Hid (w11.heap[w7.heap.size]? = _) := (hF.out.block _ (Array.getElem?_eq_some_iff.1 KG.out).1 (fun h => by have h1 := h.1; have h2 := h.2; omega)).trans KG.out
  clear hF
  obtain ⟨K0_0, K0_1, K0_2, K0_3⟩ := blk4 K0.out
  have K0_l : w.heap.size < w11.heap.size := (Array.getElem?_eq_some_iff.1 K0.out).1
  obtain ⟨K1_0, K1_1, K1_2, K1_3⟩ := blk4 K1.out
  have K1_l : w.heap.size + 1 < w11.heap.size := (Array.getElem?_eq_some_iff.1 K1.out).1
  obtain ⟨KW_0, KW_1, KW_2, KW_3⟩ := blk4 KW.out
  have KW_l : gw < w11.heap.size := (Array.getElem?_eq_some_iff.1 KW.out).1
  obtain ⟨KX0_0, KX0_1, KX0_2, KX0_3⟩ := blk4 KX0.out
  have KX0_l : w3.heap.size < w11.heap.size := (Array.getElem?_eq_some_iff.1 KX0.out).1
  obtain ⟨KX1_0, KX1_1, KX1_2, KX1_3⟩ := blk4 KX1.out
  have KX1_l : w5.heap.size < w11.heap.size := (Array.getElem?_eq_some_iff.1 KX1.out).1
  obtain ⟨KG_0, KG_1, KG_2, KG_3⟩ := blk4 KG.out
  have KG_l : w7.heap.size < w11.heap.size := (Array.getElem?_eq_some_iff.1 KG.out).1
  obtain ⟨k1, hk1⟩ : ∃ k : Int, k = k0 + 3 * D1.moves.length + D1.firsts.length + D1.ends.length := ⟨_, rfl⟩
  rw [← hk1]
  have hk01 : 1 ≤ k1 := by omega
  have hk11 : k1 ≤ 20000000 := by omega
  clear hk1
  go_wp2_with fail
  clear K0_0 K0_1 K0_2 K0_3 K0_l K1_0 K1_1 K1_2 K1_3 K1_l KW_0 KW_1 KW_2 KW_3 KW_l KX0_0 KX0_1 KX0_2 KX0_3 KX0_l KX1_0 KX1_1 KX1_2 KX1_3 KX1_l KG_0 KG_1 KG_2 KG_3 KG_l
  refine (eqNfa_e x _ _ _ _ _ _ q _ Hx Hvg.out.rd (HW3.out.stay (kpL HB3.out))).mono ?_
  rintro e w12 ⟨bq, rfl, hb, hq0⟩
  cases bq
  · exact (hbF hq0 trivial).elim
  clear hq0
  replace HB := Lib.hid (HB.out.trans (hb.mono HB.out.size))
  replace K0 := Lib.hid (blkBel hb K0.out)
  replace K1 := Lib.hid (blkBel hb K1.out)
  replace KW := Lib.hid (blkBel hb KW.out)
  replace HB3 := Lib.hid (HB3.out.trans (hb.mono HB3.out.size))
  replace KX0 := Lib.hid (blkBel hb KX0.out)
  replace KX1 := Lib.hid (blkBel hb KX1.out)
  replace Hvg := Lib.hid (Hvg.out.stay hb.size (ksB hb))
  replace KG := Lib.hid (blkBel hb KG.out)
  clear hb
  obtain ⟨K0_0, K0_1, K0_2, K0_3⟩ := blk4 K0.out
  have K0_l : w.heap.size < w12.heap.size := (Array.getElem?_eq_some_iff.1 K0.out).1
  obtain ⟨K1_0, K1_1, K1_2, K1_3⟩ := blk4 K1.out
  have K1_l : w.heap.size + 1 < w12.heap.size := (Array.getElem?_eq_some_iff.1 K1.out).1
  obtain ⟨KW_0, KW_1, KW_2, KW_3⟩ := blk4 KW.out
  have KW_l : gw < w12.heap.size := (Array.getElem?_eq_some_iff.1 KW.out).1
  obtain ⟨KX0_0, KX0_1, KX0_2, KX0_3⟩ := blk4 KX0.out
  have KX0_l : w3.heap.size < w12.heap.size := (Array.getElem?_eq_some_iff.1 KX0.out).1
  obtain ⟨KX1_0, KX1_1, KX1_2, KX1_3⟩ := blk4 KX1.out
  have KX1_l : w5.heap.size < w12.heap.size := (Array.getElem?_eq_some_iff.1 KX1.out).1
  obtain ⟨KG_0, KG_1, KG_2, KG_3⟩ := blk4 KG.out
  have KG_l : w7.heap.size < w12.heap.size := (Array.getElem?_eq_some_iff.1 KG.out).1
  go_wp2_with fail
  clear K0_0 K0_1 K0_2 K0_3 K0_l K1_0 K1_1 K1_2 K1_3 K1_l KW_0 KW_1 KW_2 KW_3 KW_l KX0_0 KX0_1 KX0_2 KX0_3 KX0_l KX1_0 KX1_1 KX1_2 KX1_3 KX1_l KG_0 KG_1 KG_2 KG_3 KG_l
  have hsr : ∀ b : Nat, (w6.heap.size ≤ b ∧ b < w7.heap.size) → b < w12.heap.size := fun b hb => by have := hb.2; have := (Array.getElem?_eq_some_iff.1 KG.out).1; omega
  refine (markNfa_e _ _ _ _ q 1 _ Hvg.out hsr (by omega) HSmall.out).mono ?_
  rintro e w13 ⟨rfl, hF, hM⟩
  clear hsr
  clear Hvg
  replace HB := Lib.hid (HB.out.trans (hF.out.low (B := W.heap.size) (fun b h => by have := h.1; omega) HB.out.size))
  replace K0 : Hid (w13.heap[w.heap.size]? = _) := (hF.out.block _ (Array.getElem?_eq_some_iff.1 K0.out).1 (fun h => by have h1 := h.1; have h2 := h.2; omega)).trans K0.out
  replace K1 : Hid (w13.heap[w.heap.size + 1]? = _) := (hF.out.block _ (Array.getElem?_eq_some_iff.1 K1.out).1 (fun h => by have h1 := h.1; have h2 := h.2; omega)).trans K1.out
  replace KW : Hid (w13.heap[gw]? = _) := (hF.out.block _ (Array.getElem?_eq_some_iff.1 KW.out).1 (fun h => by have h1 := h.1; have h2 := h.2; omega)).trans KW.out
  replace HB3 := Lib.hid (HB3.out.trans (hF.out.low (B := gwx.heap.size) (fun b h => by have := h.1; omega) HB3.out.size))
  replace KX0 : Hid (w13.heap[w3.heap.size]? = _) := (hF.out.block _ (Array.getElem?_eq_some_iff.1 KX0.out).1 (fun h => by have h1 := h.1; have h2 := h.2; omega)).trans KX0.out
  replace KX1 : Hid (w13.heap[w5.heap.size]? = _) := (hF.out.block _ (Array.getElem?_eq_some_iff.1 KX1.out).1 (fun h => by have h1 := h.1; have h2 := h.2; omega)).trans KX1.out
  replace KG : Hid (w13.heap[w7.heap.size]? = _) := (hF.out.block _ (Array.getElem?_eq_some_iff.1 KG.out).1 (fun h => by have h1 := h.1; have h2 := h.2; omega)).trans KG.out
  have HM := Lib.hid hM.out; clear hM hF
  obtain ⟨K0_0, K0_1, K0_2, K0_3⟩ := blk4 K0.out
  have K0_l : w.heap.size < w13.heap.size := (Array.getElem?_eq_some_iff.1 K0.out).1
  obtain ⟨K1_0, K1_1, K1_2, K1_3⟩ := blk4 K1.out
  have K1_l : w.heap.size + 1 < w13.heap.size := (Array.getElem?_eq_some_iff.1 K1.out).1
  obtain ⟨KW_0, KW_1, KW_2, KW_3⟩ := blk4 KW.out
  have KW_l : gw < w13.heap.size := (Array.getElem?_eq_some_iff.1 KW.out).1
  obtain ⟨KX0_0, KX0_1, KX0_2, KX0_3⟩ := blk4 KX0.out
  have KX0_l : w3.heap.size < w13.heap.size := (Array.getElem?_eq_some_iff.1 KX0.out).1
  obtain ⟨KX1_0, KX1_1, KX1_2, KX1_3⟩ := blk4 KX1.out
  have KX1_l : w5.heap.size < w13.heap.size := (Array.getElem?_eq_some_iff.1 KX1.out).1
  obtain ⟨KG_0, KG_1, KG_2, KG_3⟩ := blk4 KG.out
  have KG_l : w7.heap.size < w13.heap.size := (Array.getElem?_eq_some_iff.1 KG.out).1
  have htq := HSmall.out.1; have htq2 := HSmall.out.2.1; have htq3 := HSmall.out.2.2
  obtain ⟨kr, hkr⟩ : ∃ k : Int, k = 1 + 3 * (q.moves.length : Int) + (q.firsts.length : Int) + (q.ends.length : Int) := ⟨_, rfl⟩
  have hkr0 : 0 ≤ kr := by omega
  have hkr1 : kr ≤ 4000000000000 := by omega
  rw [← hkr]
  have hne := bneS kr
  go_wp2_with fail
  clear K0_0 K0_1 K0_2 K0_3 K0_l K1_0 K1_1 K1_2 K1_3 K1_l KW_0 KW_1 KW_2 KW_3 KW_l KX0_0 KX0_1 KX0_2 KX0_3 KX0_l KX1_0 KX1_1 KX1_2 KX1_3 KX1_l KG_0 KG_1 KG_2 KG_3 KG_l
  refine (heldNfa_e _ _ _ _ q 1 _ HM.out (by omega) HSmall.out).mono ?_
  rintro e w14 ⟨rfl, hb⟩
  replace HB := Lib.hid (HB.out.trans (hb.mono HB.out.size))
  replace K0 := Lib.hid (blkBel hb K0.out)
  replace K1 := Lib.hid (blkBel hb K1.out)
  replace KW := Lib.hid (blkBel hb KW.out)
  replace HB3 := Lib.hid (HB3.out.trans (hb.mono HB3.out.size))
  replace KX0 := Lib.hid (blkBel hb KX0.out)
  replace KX1 := Lib.hid (blkBel hb KX1.out)
  replace KG := Lib.hid (blkBel hb KG.out)
  replace HM := Lib.hid (HM.out.stay hb)
  clear hb
  rw [← hkr]
  obtain ⟨K0_0, K0_1, K0_2, K0_3⟩ := blk4 K0.out
  have K0_l : w.heap.size < w14.heap.size := (Array.getElem?_eq_some_iff.1 K0.out).1
  obtain ⟨K1_0, K1_1, K1_2, K1_3⟩ := blk4 K1.out
  have K1_l : w.heap.size + 1 < w14.heap.size := (Array.getElem?_eq_some_iff.1 K1.out).1
  obtain ⟨KW_0, KW_1, KW_2, KW_3⟩ := blk4 KW.out
  have KW_l : gw < w14.heap.size := (Array.getElem?_eq_some_iff.1 KW.out).1
  obtain ⟨KX0_0, KX0_1, KX0_2, KX0_3⟩ := blk4 KX0.out
  have KX0_l : w3.heap.size < w14.heap.size := (Array.getElem?_eq_some_iff.1 KX0.out).1
  obtain ⟨KX1_0, KX1_1, KX1_2, KX1_3⟩ := blk4 KX1.out
  have KX1_l : w5.heap.size < w14.heap.size := (Array.getElem?_eq_some_iff.1 KX1.out).1
  obtain ⟨KG_0, KG_1, KG_2, KG_3⟩ := blk4 KG.out
  have KG_l : w7.heap.size < w14.heap.size := (Array.getElem?_eq_some_iff.1 KG.out).1
  have KeepK : Hid (∀ w', Below w14.heap.size w14 w' → w'.cell? ⟨w.heap.size, 0, none⟩ = some (.int .i64 D0.states) ∧ w'.cell? ⟨w.heap.size, 1, none⟩ = some (.slice a0 D0.moves.length c0) ∧ w'.cell? ⟨w.heap.size, 2, none⟩ = some (.slice b0 D0.firsts.length d0) ∧ w'.cell? ⟨w.heap.size, 3, none⟩ = some (.slice f0 D0.ends.length g0) ∧ w'.cell? ⟨w.heap.size + 1, 0, none⟩ = some (.int .i64 D1.states) ∧ w'.cell? ⟨w.heap.size + 1, 1, none⟩ = some (.slice a1 D1.moves.length c1) ∧ w'.cell? ⟨w.heap.size + 1, 2, none⟩ = some (.slice b1 D1.firsts.length d1) ∧ w'.cell? ⟨w.heap.size + 1, 3, none⟩ = some (.slice f1 D1.ends.length g1)) := fun w' hb => by
    have h0 := blk4 (blkBel hb K0.out); have h1 := blk4 (blkBel hb K1.out)
    exact ⟨h0.1, h0.2.1, h0.2.2.1, h0.2.2.2, h1.1, h1.2.1, h1.2.2.1, h1.2.2.2⟩
  go_wp2_with fail
  go_cut [15, 16] (fun s1 s2 wx => ∃ (gh : Nat) (avh : Option Addr) (cvh : Nat) (bvh : Option Addr) (dvh : Nat) (fvh : Option Addr) (gvh : Nat), s1 = .pointer (some ⟨gh, 0, none⟩) ∧ s2 = .bool zb ∧ Hid (Below w14.heap.size w14 wx) ∧ Hid (w14.heap.size ≤ gh) ∧ Hid (wx.heap[gh]? = some (.cells #[.int .i64 x, .slice avh q.moves.length cvh, .slice bvh q.firsts.length dvh, .slice fvh q.ends.length gvh] 46 (0, 0))) ∧ Hid (NfE (fun b => w14.heap.size ≤ b ∧ b < wx.heap.size) wx (.slice avh q.moves.length cvh) (.slice bvh q.firsts.length dvh) (.slice fvh q.ends.length gvh) q))
  case first =>
    have hbs : Hid (Below w14.heap.size w14 w14.drew) := (Below.refl _ _).drew
    go_region_held3 (fun w' => w'.cell? ⟨w.heap.size, 0, none⟩ = some (.int .i64 D0.states) ∧ w'.cell? ⟨w.heap.size, 1, none⟩ = some (.slice a0 D0.moves.length c0) ∧ w'.cell? ⟨w.heap.size, 2, none⟩ = some (.slice b0 D0.firsts.length d0) ∧ w'.cell? ⟨w.heap.size, 3, none⟩ = some (.slice f0 D0.ends.length g0) ∧ w'.cell? ⟨w.heap.size + 1, 0, none⟩ = some (.int .i64 D1.states) ∧ w'.cell? ⟨w.heap.size + 1, 1, none⟩ = some (.slice a1 D1.moves.length c1) ∧ w'.cell? ⟨w.heap.size + 1, 2, none⟩ = some (.slice b1 D1.firsts.length d1) ∧ w'.cell? ⟨w.heap.size + 1, 3, none⟩ = some (.slice f1 D1.ends.length g1))
      (first | exact KeepK.out _ hbs.out | exact KeepK.out _ (hbs.out.alloc hbs.out.size _) | exact KeepK.out _ (bel4 hbs.out hKg.out _ _ _ _))
      (first | (go_at_call_of 33 (Value.agg #[.int .i64 D0.states, .slice a0 D0.moves.length c0, .slice b0 D0.firsts.length d0, .slice f0 D0.ends.length g0]); refine (toNfa_c _ _ _ D0 _ (H0.out.stay (kpB (by first | exact HB.out.trans (hbs.out.mono HB.out.size) | exact HB.out.trans ((hbs.out.alloc hbs.out.size _).mono HB.out.size)))) HSM0.out).mono ?_; rintro e v0 ⟨ym0, yn0, ye0, rfl, hb, hd⟩; (first | (replace hbs := Lib.hid (hbs.out.trans (hb.mono hbs.out.size)); (try (revert Kb; intro Kb; replace Kb := Lib.hid (blkBel hb Kb.out)))) | (have Kb := Lib.hid (blkBel hb (blkNew _ _ rfl)); have hKg := Lib.hid hbs.out.size; replace hbs := Lib.hid ((hbs.out.alloc hbs.out.size _).trans (hb.mono (hbs.out.alloc hbs.out.size _).size)))); have HXy0 := Lib.hid hd.out.rd; clear hd hb) | (go_at_call_of 33 (Value.agg #[.int .i64 D1.states, .slice a1 D1.moves.length c1, .slice b1 D1.firsts.length d1, .slice f1 D1.ends.length g1]); refine (toNfa_c _ _ _ D1 _ (H1.out.stay (kpB (by first | exact HB.out.trans (hbs.out.mono HB.out.size) | exact HB.out.trans ((hbs.out.alloc hbs.out.size _).mono HB.out.size)))) HSM1.out).mono ?_; rintro e v1 ⟨ym1, yn1, ye1, rfl, hb, hd⟩; (first | (replace hbs := Lib.hid (hbs.out.trans (hb.mono hbs.out.size)); (try (revert Kb; intro Kb; replace Kb := Lib.hid (blkBel hb Kb.out)))) | (have Kb := Lib.hid (blkBel hb (blkNew _ _ rfl)); have hKg := Lib.hid hbs.out.size; replace hbs := Lib.hid ((hbs.out.alloc hbs.out.size _).trans (hb.mono (hbs.out.alloc hbs.out.size _).size)))); (first | replace HXy0 := Lib.hid (HXy0.out.stay (kpB hb)) | replace HXy0 := Lib.hid ((HXy0.out.stay kpAlloc).stay (kpB hb))); have HXy1 := Lib.hid hd.out.rd; clear hd hb) | (go_at_call 49; refine (NfaEither_l _ _ _ D0 _ _ _ D1 _ (by first | exact HXy0.out | exact HXy0.out.stay kpAlloc) (by first | exact HXy1.out | exact HXy1.out.stay kpAlloc)).mono ?_; rintro e v9 ⟨q1, q2, q3, rfl, hb, hd⟩; have hzr := hbs.out.size; rw [hq.out] at hd ⊢; rw [← Hx.out, hzb.out]; obtain ⟨aa, cc, bb, dd, ff, gg, rfl, rfl, rfl, _, _, _⟩ := hd.out.w.rd.shapes; (first | (replace hbs := Lib.hid (hbs.out.trans (hb.mono hbs.out.size)); (try (revert Kb; intro Kb; replace Kb := Lib.hid (blkBel hb Kb.out)))) | (have Kb := Lib.hid (blkBel hb (blkNew _ _ rfl)); have hKg := Lib.hid hbs.out.size; replace hbs := Lib.hid ((hbs.out.alloc hbs.out.size _).trans (hb.mono (hbs.out.alloc hbs.out.size _).size)))); (try (revert Kb; intro Kb; obtain ⟨kb0, kb1, kb2, kb3⟩ := blk4 Kb.out; have kbf := blkFz Kb.out))))
    all_goals
      go_wp2_with fail
      go_meet
      have hdd := hd.out.base (base' := w14.heap.size) (by (try simp only [World.size_alloc]); omega)
      first
        | (refine ⟨v9.heap.size, aa, cc, bb, dd, ff, gg, rfl, rfl, hbs.out.alloc hbs.out.size _, hbs.out.size, blkNew _ _ rfl, ?_⟩
           exact (hdd.stay ((Below.refl _ _).alloc (Nat.le_refl _) _)).e)
        | (refine ⟨_, aa, cc, bb, dd, ff, gg, rfl, rfl, bel4 hbs.out hKg.out _ _ _ _, hKg.out, blk4s Kb.out, ?_⟩
           exact (hdd.set4 _ (by have := hKg.out; omega) Kb.out (by decide) _ _ _ _).e)
  case rest =>
  obtain ⟨gh, avh, cvh, bvh, dvh, fvh, gvh, rfl, rfl, hbx, hgvh, KH, hvh⟩ := hcut
  obtain ⟨ghx, hwcx⟩ : ∃ z, z = wc := ⟨_, rfl⟩
  subst hwcx
  clear KeepK
  clear K0_0 K0_1 K0_2 K0_3 K0_l K1_0 K1_1 K1_2 K1_3 K1_l KW_0 KW_1 KW_2 KW_3 KW_l KX0_0 KX0_1 KX0_2 KX0_3 KX0_l KX1_0 KX1_1 KX1_2 KX1_3 KX1_l KG_0 KG_1 KG_2 KG_3 KG_l
  replace HB := Lib.hid (HB.out.trans (hbx.out.mono HB.out.size))
  replace K0 := Lib.hid (blkBel hbx.out K0.out)
  replace K1 := Lib.hid (blkBel hbx.out K1.out)
  replace KW := Lib.hid (blkBel hbx.out KW.out)
  replace HB3 := Lib.hid (HB3.out.trans (hbx.out.mono HB3.out.size))
  replace KX0 := Lib.hid (blkBel hbx.out KX0.out)
  replace KX1 := Lib.hid (blkBel hbx.out KX1.out)
  replace KG := Lib.hid (blkBel hbx.out KG.out)
  replace HM := Lib.hid (HM.out.stay hbx.out)
  have hzvh := hbx.out.size; clear hbx
  have Hvh := Lib.hid hvh.out; clear hvh
  obtain ⟨K0_0, K0_1, K0_2, K0_3⟩ := blk4 K0.out
  have K0_l : w.heap.size < ghx.heap.size := (Array.getElem?_eq_some_iff.1 K0.out).1
  obtain ⟨K1_0, K1_1, K1_2, K1_3⟩ := blk4 K1.out
  have K1_l : w.heap.size + 1 < ghx.heap.size := (Array.getElem?_eq_some_iff.1 K1.out).1
  obtain ⟨KW_0, KW_1, KW_2, KW_3⟩ := blk4 KW.out
  have KW_l : gw < ghx.heap.size := (Array.getElem?_eq_some_iff.1 KW.out).1
  obtain ⟨KX0_0, KX0_1, KX0_2, KX0_3⟩ := blk4 KX0.out
  have KX0_l : w3.heap.size < ghx.heap.size := (Array.getElem?_eq_some_iff.1 KX0.out).1
  obtain ⟨KX1_0, KX1_1, KX1_2, KX1_3⟩ := blk4 KX1.out
  have KX1_l : w5.heap.size < ghx.heap.size := (Array.getElem?_eq_some_iff.1 KX1.out).1
  obtain ⟨KG_0, KG_1, KG_2, KG_3⟩ := blk4 KG.out
  have KG_l : w7.heap.size < ghx.heap.size := (Array.getElem?_eq_some_iff.1 KG.out).1
  obtain ⟨KH_0, KH_1, KH_2, KH_3⟩ := blk4 KH.out
  have KH_l : gh < ghx.heap.size := (Array.getElem?_eq_some_iff.1 KH.out).1
  go_wp2_with fail
  clear K0_0 K0_1 K0_2 K0_3 K0_l K1_0 K1_1 K1_2 K1_3 K1_l KW_0 KW_1 KW_2 KW_3 KW_l KX0_0 KX0_1 KX0_2 KX0_3 KX0_l KX1_0 KX1_1 KX1_2 KX1_3 KX1_l KG_0 KG_1 KG_2 KG_3 KG_l KH_0 KH_1 KH_2 KH_3 KH_l
  refine (eqNfa_e x _ _ _ _ _ _ q _ Hx Hvh.out.rd (HW3.out.stay (kpL HB3.out))).mono ?_
  rintro e w15 ⟨bq, rfl, hb, hq0⟩
  cases bq
  · exact (hbF hq0 trivial).elim
  clear hq0
  replace HB := Lib.hid (HB.out.trans (hb.mono HB.out.size))
  replace K0 := Lib.hid (blkBel hb K0.out)
  replace K1 := Lib.hid (blkBel hb K1.out)
  replace KW := Lib.hid (blkBel hb KW.out)
  replace HB3 := Lib.hid (HB3.out.trans (hb.mono HB3.out.size))
  replace KX0 := Lib.hid (blkBel hb KX0.out)
  replace KX1 := Lib.hid (blkBel hb KX1.out)
  replace KG := Lib.hid (blkBel hb KG.out)
  replace HM := Lib.hid (HM.out.stay hb)
  replace KH := Lib.hid (blkBel hb KH.out)
  replace Hvh := Lib.hid (Hvh.out.stay hb.size (ksB hb))
  clear hb
  obtain ⟨K0_0, K0_1, K0_2, K0_3⟩ := blk4 K0.out
  have K0_l : w.heap.size < w15.heap.size := (Array.getElem?_eq_some_iff.1 K0.out).1
  obtain ⟨K1_0, K1_1, K1_2, K1_3⟩ := blk4 K1.out
  have K1_l : w.heap.size + 1 < w15.heap.size := (Array.getElem?_eq_some_iff.1 K1.out).1
  obtain ⟨KW_0, KW_1, KW_2, KW_3⟩ := blk4 KW.out
  have KW_l : gw < w15.heap.size := (Array.getElem?_eq_some_iff.1 KW.out).1
  obtain ⟨KX0_0, KX0_1, KX0_2, KX0_3⟩ := blk4 KX0.out
  have KX0_l : w3.heap.size < w15.heap.size := (Array.getElem?_eq_some_iff.1 KX0.out).1
  obtain ⟨KX1_0, KX1_1, KX1_2, KX1_3⟩ := blk4 KX1.out
  have KX1_l : w5.heap.size < w15.heap.size := (Array.getElem?_eq_some_iff.1 KX1.out).1
  obtain ⟨KG_0, KG_1, KG_2, KG_3⟩ := blk4 KG.out
  have KG_l : w7.heap.size < w15.heap.size := (Array.getElem?_eq_some_iff.1 KG.out).1
  obtain ⟨KH_0, KH_1, KH_2, KH_3⟩ := blk4 KH.out
  have KH_l : gh < w15.heap.size := (Array.getElem?_eq_some_iff.1 KH.out).1
  clear Hvh
  go_wp2_with fail
  clear K0_0 K0_1 K0_2 K0_3 K0_l K1_0 K1_1 K1_2 K1_3 K1_l KW_0 KW_1 KW_2 KW_3 KW_l KX0_0 KX0_1 KX0_2 KX0_3 KX0_l KX1_0 KX1_1 KX1_2 KX1_3 KX1_l KG_0 KG_1 KG_2 KG_3 KG_l KH_0 KH_1 KH_2 KH_3 KH_l
  refine (heldNfa_e _ _ _ _ q 1 _ HM.out (by omega) HSmall.out).mono ?_
  rintro e w16 ⟨rfl, hb⟩
  replace HB := Lib.hid (HB.out.trans (hb.mono HB.out.size))
  replace K0 := Lib.hid (blkBel hb K0.out)
  replace K1 := Lib.hid (blkBel hb K1.out)
  replace KW := Lib.hid (blkBel hb KW.out)
  replace HB3 := Lib.hid (HB3.out.trans (hb.mono HB3.out.size))
  replace KX0 := Lib.hid (blkBel hb KX0.out)
  replace KX1 := Lib.hid (blkBel hb KX1.out)
  replace KG := Lib.hid (blkBel hb KG.out)
  replace HM := Lib.hid (HM.out.stay hb)
  replace KH := Lib.hid (blkBel hb KH.out)
  clear hb
  rw [← hkr]
  obtain ⟨K0_0, K0_1, K0_2, K0_3⟩ := blk4 K0.out
  have K0_l : w.heap.size < w16.heap.size := (Array.getElem?_eq_some_iff.1 K0.out).1
  obtain ⟨K1_0, K1_1, K1_2, K1_3⟩ := blk4 K1.out
  have K1_l : w.heap.size + 1 < w16.heap.size := (Array.getElem?_eq_some_iff.1 K1.out).1
  obtain ⟨KW_0, KW_1, KW_2, KW_3⟩ := blk4 KW.out
  have KW_l : gw < w16.heap.size := (Array.getElem?_eq_some_iff.1 KW.out).1
  obtain ⟨KX0_0, KX0_1, KX0_2, KX0_3⟩ := blk4 KX0.out
  have KX0_l : w3.heap.size < w16.heap.size := (Array.getElem?_eq_some_iff.1 KX0.out).1
  obtain ⟨KX1_0, KX1_1, KX1_2, KX1_3⟩ := blk4 KX1.out
  have KX1_l : w5.heap.size < w16.heap.size := (Array.getElem?_eq_some_iff.1 KX1.out).1
  obtain ⟨KG_0, KG_1, KG_2, KG_3⟩ := blk4 KG.out
  have KG_l : w7.heap.size < w16.heap.size := (Array.getElem?_eq_some_iff.1 KG.out).1
  obtain ⟨KH_0, KH_1, KH_2, KH_3⟩ := blk4 KH.out
  have KH_l : gh < w16.heap.size := (Array.getElem?_eq_some_iff.1 KH.out).1
  clear K0_0 K0_1 K0_2 K0_3 K0_l K1_0 K1_1 K1_2 K1_3 K1_l KW_0 KW_1 KW_2 KW_3 KW_l KX0_0 KX0_1 KX0_2 KX0_3 KX0_l KX1_0 KX1_1 KX1_2 KX1_3 KX1_l KG_0 KG_1 KG_2 KG_3 KG_l KH_0 KH_1 KH_2 KH_3 KH_l
  have hfin := HB0.out.trans (HB.out.mono HB0.out.size)
  go_wp2
  go_ret
  exact ⟨rfl, hfin⟩
end Go.Proofs.Ytgihihnbapnnjaa.fnExactNfaEither
