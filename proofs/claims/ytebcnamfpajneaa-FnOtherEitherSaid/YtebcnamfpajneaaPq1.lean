/- spec.DfaEither: the reference's. -/
import Derived.Test.YtebcnamfpajneaaPs1
set_option linter.unusedSimpArgs false
set_option linter.unusedVariables false
set_option linter.unusedSectionVars false
namespace Go.Proofs.Ytebcnamfpajneaa
open Go.RowKit
set_option maxRecDepth 100000
variable {S T : Nat → Prop}
set_option maxHeartbeats 1000000 in
theorem l15Pair1_c (vn ve un ue : Value) (A B : DfaD) (w : World) (h : DfaR S w vn ve A) (h' : DfaR T w un ue B) :
    Calls Try.prog 86 #[.agg #[vn, ve], .agg #[un, ue], .int .i64 1] w (RDb (prD gEither A B) (prP A B) w) := by
  obtain ⟨a, ca, b, d, rfl, rfl, hn, hm1⟩ := h.shapes
  obtain ⟨a', ca', b', d', rfl, rfl, hn', hm1'⟩ := h'.shapes
  obtain ⟨W, hW⟩ : ∃ W, W = ((w.alloc (.cells #[.slice a A.1.length ca, .slice b A.2.length d] 26)).alloc (.cells #[.slice a' B.1.length ca', .slice b' B.2.length d'] 26)).alloc (.cells #[.slice none 0 0, .slice none 0 0] 26) := ⟨_, rfl⟩
  have Hb0 : Hid (Below w.heap.size w W) := by rw [hW]; exact (((Below.refl _ _).alloc (Nat.le_refl _) _).alloc (by simp) _).alloc (by simp; omega) _
  have K4 : Hid (W.heap[w.heap.size]? = some (.cells #[.slice a A.1.length ca, .slice b A.2.length d] 26 (0, 0))) := by rw [hW]; exact blkOld (blkOld (blkNew _ _ rfl))
  have K5 : Hid (W.heap[w.heap.size + 1]? = some (.cells #[.slice a' B.1.length ca', .slice b' B.2.length d'] 26 (0, 0))) := by rw [hW]; exact blkOld (blkNew _ _ (by simp))
  have K6 : Hid (W.heap[w.heap.size + 2]? = some (.cells #[.slice none 0 0, .slice none 0 0] 26 (0, 0))) := by rw [hW]; exact blkNew _ _ (by simp)
  have hzW := (Array.getElem?_eq_some_iff.1 K6.out).1
  have H := Lib.hid (h.stay (kpB Hb0.out))
  have H' := Lib.hid (h'.stay (kpB Hb0.out))
  have HW := Lib.hid hW
  clear h h' hW
  obtain ⟨c0, c1, _, _⟩ := blk2 K4.out
  obtain ⟨e0, e1, _, _⟩ := blk2 K5.out
  rw [HW.out] at c0 c1 e0 e1
  go_enter Try.func86, Try.ntmps86
  go_wp2_with fail
  clear c0 c1 e0 e1
  rw [← HW.out]
  refine (sDfaValid_c _ _ A W H.out).mono ?_
  rintro e w1 ⟨ok, rfl, hb1, hok⟩
  have hB1 := Lib.hid (Hb0.out.trans (hb1.mono Hb0.out.size))
  have KR := Lib.hid (blkBel hb1 K6.out)
  have K51 := Lib.hid (blkBel hb1 K5.out)
  have K41 := Lib.hid (blkBel hb1 K4.out)
  have H1 := Lib.hid (H.out.stay (kpB hb1))
  have H1' := Lib.hid (H'.out.stay (kpB hb1))
  have hz1 := hb1.size
  clear hb1 K6 K5 K4 H H' HW
  obtain ⟨c0, c1, _, _⟩ := blk2 K41.out
  obtain ⟨e0, e1, _, _⟩ := blk2 K51.out
  cases ok
  · have hno : Hid (¬ prP A B) := fun h => hbF hok h.1
    have hnA := Lib.hid (hbF hok)
    have HBR := hB1
    clear hok
    obtain ⟨z0, z1, y0, y1⟩ := blk2 KR.out
    go_wp2
    have f0 := cell_setOther (o := 1) (u := .slice none 0 0) (cell_setSame (u := .slice none 0 0) z0) (by omega)
    have f1 := cell_setSame (u := .slice none 0 0) (cell_setOther (o := 0) (u := .slice none 0 0) z1 (by omega))
    refine bodyPost_ret (v := .tuple #[.agg #[.slice none 0 0, .slice none 0 0], .bool false]) (by simp [results, Try.results86, go_sem, f0, f1]) rfl ?_
    rw [prD_neg (fun h => hnA.out h.1)]
    refine RDb.fin HBR.out (by omega) ⟨nofun, fun h => absurd h hno.out⟩ (dfaNil (q := w.heap.size) ⟨⟨Nat.le_refl _, by omega⟩, by omega⟩ ⟨w.heap.size + 1, ⟨⟨by omega, by omega⟩, by omega⟩, by omega⟩)
  · have hyA := Lib.hid (hbT hok)
    clear hok
    go_wp2_with fail
    clear c0 c1 e0 e1
    refine (sDfaValid_c _ _ B w1 H1'.out).mono ?_
    rintro e w2 ⟨ok, rfl, hb2, hok⟩
    have hB2 := Lib.hid (hB1.out.trans (hb2.mono hB1.out.size))
    have KR2 := Lib.hid (blkBel hb2 KR.out)
    have K52 := Lib.hid (blkBel hb2 K51.out)
    have K42 := Lib.hid (blkBel hb2 K41.out)
    have H2 := Lib.hid (H1.out.stay (kpB hb2))
    have H2' := Lib.hid (H1'.out.stay (kpB hb2))
    have hz2 := hb2.size
    clear hb2 KR K51 K41 H1 H1' hB1
    obtain ⟨c0, c1, _, _⟩ := blk2 K42.out
    obtain ⟨e0, e1, _, _⟩ := blk2 K52.out
    cases ok
    · have hno : Hid (¬ prP A B) := fun h => hbF hok h.2.1
      have hnB := Lib.hid (hbF hok)
      have HBR := hB2
      have KR := KR2
      clear hok
      obtain ⟨z0, z1, y0, y1⟩ := blk2 KR.out
      go_wp2
      have f0 := cell_setOther (o := 1) (u := .slice none 0 0) (cell_setSame (u := .slice none 0 0) z0) (by omega)
      have f1 := cell_setSame (u := .slice none 0 0) (cell_setOther (o := 0) (u := .slice none 0 0) z1 (by omega))
      refine bodyPost_ret (v := .tuple #[.agg #[.slice none 0 0, .slice none 0 0], .bool false]) (by simp [results, Try.results86, go_sem, f0, f1]) rfl ?_
      rw [prD_neg (fun h => hnB.out h.2)]
      refine RDb.fin HBR.out (by omega) ⟨nofun, fun h => absurd h hno.out⟩ (dfaNil (q := w.heap.size) ⟨⟨Nat.le_refl _, by omega⟩, by omega⟩ ⟨w.heap.size + 1, ⟨⟨by omega, by omega⟩, by omega⟩, by omega⟩)
    · have hyB := Lib.hid (hbT hok)
      clear hok
      go_wp2_with fail
      clear c0 c1 e0 e1
      refine (l11Pair1_c _ _ _ _ A B w2 H2.out H2'.out hyA.out hyB.out).mono ?_
      rintro e w3 ⟨vN, vE, ok, rfl, hb3, hx⟩
      have KR3 := Lib.hid (blkBel hb3 KR2.out)
      have hB3 := Lib.hid (hB2.out.trans (hb3.mono hB2.out.size))
      have hz3 := hb3.size
      clear hb3 KR2 K52 K42 H2 H2'
      rcases hx.out with ⟨rfl, k, h1, h2, h3⟩ | ⟨rfl, rfl, rfl, h4⟩
      · have hno : ¬ pbig A B 40 := pbig_not h1 h2
        have HN : Hid (prP A B) := ⟨hyA.out, hyB.out, hno⟩
        have Hok := Lib.hid (pair_ok (g := gEither) h1 h2)
        have Hlg := Lib.hid (pair_lg (g := gEither) h1)
        have HD3 := Lib.hid h3
        clear hx h1 h2 h3 hno
        generalize autD (pn A B) (pe gEither A B) (rnd (pn A B) (0, 0) k) = X at *
        obtain ⟨a1, ca1, b1, cb1, rfl, rfl, _, _⟩ := HD3.out.shapes
        obtain ⟨W4, hW4⟩ : ∃ W4, W4 = w3.alloc (.cells #[.slice a1 X.1.length ca1, .slice b1 X.2.length cb1] 26) := ⟨_, rfl⟩
        have hb4 : Below w3.heap.size w3 W4 := by rw [hW4]; exact (Below.refl _ _).alloc (Nat.le_refl _) _
        have K8 : Hid (W4.heap[w3.heap.size]? = some (.cells #[.slice a1 X.1.length ca1, .slice b1 X.2.length cb1] 26 (0, 0))) := by rw [hW4]; exact blkNew _ _ rfl
        have HX3 := Lib.hid (HD3.out.stay (kpB hb4))
        have KR4 := Lib.hid (blkBel hb4 KR3.out)
        have hB4 := Lib.hid (hB3.out.trans (hb4.mono hB3.out.size))
        have hz4 := hb4.size
        have HW4 := Lib.hid hW4
        obtain ⟨d0, d1, _, _⟩ := blk2 K8.out
        rw [HW4.out] at d0 d1
        clear hW4 hb4 KR3 HD3
        go_wp2_with fail
        clear d0 d1
        rw [← HW4.out]
        refine (l10Small_c _ _ X W4 HX3.out Hok.out).mono ?_
        rintro e w6 ⟨r1, r2, rfl, hb6, hd⟩
        rw [Hlg.out] at hd
        have Hsb : Hid (prD gEither A B = canon (lg (pn A B) (pe gEither A B) (0, 0))) := orNo_pos (p := prP A B) HN.out _
        generalize canon (lg (pn A B) (pe gEither A B) (0, 0)) = C at *
        obtain ⟨a1, ca1, b1, cb1, rfl, rfl, _, _⟩ := hd.out.rd.shapes
        have KR := Lib.hid (blkBel hb6 KR4.out)
        have HBR := Lib.hid (hB4.out.trans (hb6.mono hB4.out.size))
        have hsz6 := hb6.size
        clear hb6 Hok Hlg HX3 K8 HW4
        obtain ⟨z0, z1, y0, y1⟩ := blk2 KR.out
        go_wp2
        have f0 := cell_setOther (o := 1) (u := .slice b1 C.2.length cb1) (cell_setSame (u := .slice a1 C.1.length ca1) z0) (by omega)
        have f1 := cell_setSame (u := .slice b1 C.2.length cb1) (cell_setOther (o := 0) (u := .slice a1 C.1.length ca1) z1 (by omega))
        refine bodyPost_ret (v := .tuple #[.agg #[.slice a1 C.1.length ca1, .slice b1 C.2.length cb1], .bool true]) (by simp [results, Try.results86, go_sem, f0, f1]) rfl ?_
        rw [Hsb.out]
        exact RDb.fin HBR.out (by omega) ⟨fun _ => HN.out, fun _ => rfl⟩ (hd.out.mono (fun x hx => ⟨⟨by omega, hx.2⟩, by omega⟩))
      · have hno : Hid (¬ prP A B) := fun h => h.2.2 h4
        have Hsb : Hid (prD gEither A B = ([], [])) := orNo_neg hno.out _
        have HBR := Lib.hid (hB3.out.alloc hB3.out.size (.cells #[.slice none 0 0, .slice none 0 0] 26))
        have KR := Lib.hid (blkOld (o := .cells #[.slice none 0 0, .slice none 0 0] 26) KR3.out)
        have hzA : (w3.alloc (.cells #[.slice none 0 0, .slice none 0 0] 26)).heap.size = w3.heap.size + 1 := World.size_alloc _ _
        have HzA := Lib.hid hzA
        clear hzA hx
        obtain ⟨z0, z1, y0, y1⟩ := blk2 KR.out
        go_wp2
        have f0 := cell_setOther (o := 1) (u := .slice none 0 0) (cell_setSame (u := .slice none 0 0) z0) (by omega)
        have f1 := cell_setSame (u := .slice none 0 0) (cell_setOther (o := 0) (u := .slice none 0 0) z1 (by omega))
        refine bodyPost_ret (v := .tuple #[.agg #[.slice none 0 0, .slice none 0 0], .bool false]) (by simp [results, Try.results86, go_sem, f0, f1]) rfl ?_
        rw [Hsb.out]
        have hzA := HzA.out
        refine RDb.fin HBR.out (by omega) ⟨nofun, fun h => absurd h hno.out⟩ (dfaNil (q := w.heap.size) ⟨⟨Nat.le_refl _, by omega⟩, by omega⟩ ⟨w.heap.size + 1, ⟨⟨by omega, by omega⟩, by omega⟩, by omega⟩)
set_option maxHeartbeats 1000000 in
theorem sDfaEither_c (vn ve un ue : Value) (A B : DfaD) (w : World) (h : DfaR S w vn ve A) (h' : DfaR T w un ue B) :
    Calls Try.prog 56 #[.agg #[vn, ve], .agg #[un, ue]] w (RDb (prD gEither A B) (prP A B) w) := by
  obtain ⟨a, ca, b, d, rfl, rfl, hn, hm1⟩ := h.shapes
  obtain ⟨a', ca', b', d', rfl, rfl, hn', hm1'⟩ := h'.shapes
  obtain ⟨W, hW⟩ : ∃ W, W = ((w.alloc (.cells #[.slice a A.1.length ca, .slice b A.2.length d] 26)).alloc (.cells #[.slice a' B.1.length ca', .slice b' B.2.length d'] 26)).alloc (.cells #[.slice none 0 0, .slice none 0 0] 26) := ⟨_, rfl⟩
  have Hb0 : Hid (Below w.heap.size w W) := by rw [hW]; exact (((Below.refl _ _).alloc (Nat.le_refl _) _).alloc (by simp) _).alloc (by simp; omega) _
  have K4 : Hid (W.heap[w.heap.size]? = some (.cells #[.slice a A.1.length ca, .slice b A.2.length d] 26 (0, 0))) := by rw [hW]; exact blkOld (blkOld (blkNew _ _ rfl))
  have K5 : Hid (W.heap[w.heap.size + 1]? = some (.cells #[.slice a' B.1.length ca', .slice b' B.2.length d'] 26 (0, 0))) := by rw [hW]; exact blkOld (blkNew _ _ (by simp))
  have K6 : Hid (W.heap[w.heap.size + 2]? = some (.cells #[.slice none 0 0, .slice none 0 0] 26 (0, 0))) := by rw [hW]; exact blkNew _ _ (by simp)
  have hzW := (Array.getElem?_eq_some_iff.1 K6.out).1
  have H := Lib.hid (h.stay (kpB Hb0.out))
  have H' := Lib.hid (h'.stay (kpB Hb0.out))
  have HW := Lib.hid hW
  clear h h' hW
  obtain ⟨c0, c1, _, _⟩ := blk2 K4.out
  obtain ⟨e0, e1, _, _⟩ := blk2 K5.out
  rw [HW.out] at c0 c1 e0 e1
  have HC := Lib.hid (l15Pair1_c _ _ _ _ A B W H.out H'.out)
  clear H H' K4 K5
  go_enter Try.func56, Try.ntmps56
  go_wp2_with fail
  clear c0 c1 e0 e1
  rw [← HW.out]
  refine HC.out.mono ?_
  rintro e w6 ⟨r1, r2, bq, rfl, hb6, Hpp, hd⟩
  generalize prD gEither A B = C at *
  obtain ⟨a1, ca1, b1, cb1, rfl, rfl, _, _⟩ := hd.out.rd.shapes
  have KR := Lib.hid (blkBel hb6 K6.out)
  have HBR := Lib.hid (Hb0.out.trans (hb6.mono Hb0.out.size))
  have hsz6 := hb6.size
  clear hb6 K6 HC HW
  obtain ⟨z0, z1, y0, y1⟩ := blk2 KR.out
  go_wp2
  have f0 := cell_setOther (o := 1) (u := .slice b1 C.2.length cb1) (cell_setSame (u := .slice a1 C.1.length ca1) z0) (by omega)
  have f1 := cell_setSame (u := .slice b1 C.2.length cb1) (cell_setOther (o := 0) (u := .slice a1 C.1.length ca1) z1 (by omega))
  refine bodyPost_ret (v := .tuple #[.agg #[.slice a1 C.1.length ca1, .slice b1 C.2.length cb1], .bool bq]) (by simp [results, Try.results56, go_sem, f0, f1]) rfl ?_
  skip
  exact RDb.fin HBR.out (by omega) Hpp (hd.out.mono (fun x hx => ⟨⟨by omega, hx.2⟩, by omega⟩))
end Go.Proofs.Ytebcnamfpajneaa
