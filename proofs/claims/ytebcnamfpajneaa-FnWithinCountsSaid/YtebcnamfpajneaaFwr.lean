/- The first words of two automata side by side: the reference's. -/
import Derived.Test.YtebcnamfpajneaaFs1
import Derived.Test.YtebcnamfpajneaaFs2
import Derived.Test.YtebcnamfpajneaaFs3
set_option linter.unusedSimpArgs false
set_option linter.unusedVariables false
set_option linter.unusedSectionVars false
namespace Go.Proofs.Ytebcnamfpajneaa
open Go.RowKit
set_option maxRecDepth 100000
variable {S T : Nat → Prop}
theorem same_lg (D : DfaD) : lg (pn D D) (pe gFst D D) (0, 0) = lgD D := by
  funext w
  exact lg_map (h := fun s : Nat × Nat => s.1) (P := fun _ => True) (fun _ _ _ _ => trivial) (fun _ _ _ _ => rfl) (fun _ _ => rfl) w (0, 0) trivial
set_option maxHeartbeats 1000000 in
theorem sFirstDiffer_c (vn ve un ue : Value) (A B : DfaD) (w : World) (h : DfaR S w vn ve A) (h' : DfaR T w un ue B) :
    Calls Try.prog 81 #[.agg #[vn, ve], .agg #[un, ue]] w (RO w (.tuple #[.string (prV gApart A B), .bool (prB gApart A B)])) := by
  obtain ⟨a, ca, b, d, rfl, rfl, hn, hm1⟩ := h.shapes
  obtain ⟨a', ca', b', d', rfl, rfl, hn', hm1'⟩ := h'.shapes
  obtain ⟨W, hW⟩ : ∃ W, W = (w.alloc (.cells #[.slice a A.1.length ca, .slice b A.2.length d] 26)).alloc (.cells #[.slice a' B.1.length ca', .slice b' B.2.length d'] 26) := ⟨_, rfl⟩
  have Hb0 : Hid (Below w.heap.size w W) := by rw [hW]; exact ((Below.refl _ _).alloc (Nat.le_refl _) _).alloc (by simp) _
  have K4 : Hid (W.heap[w.heap.size]? = some (.cells #[.slice a A.1.length ca, .slice b A.2.length d] 26 (0, 0))) := by rw [hW]; exact blkOld (blkNew _ _ rfl)
  have K5 : Hid (W.heap[w.heap.size + 1]? = some (.cells #[.slice a' B.1.length ca', .slice b' B.2.length d'] 26 (0, 0))) := by rw [hW]; exact blkNew _ _ (by simp)
  have H := Lib.hid (h.stay (kpB Hb0.out))
  have H' := Lib.hid (h'.stay (kpB Hb0.out))
  have HW := Lib.hid hW
  clear h h' hW
  obtain ⟨c0, c1, _, _⟩ := blk2 K4.out
  obtain ⟨e0, e1, _, _⟩ := blk2 K5.out
  rw [HW.out] at c0 c1 e0 e1
  go_enter Try.func81, Try.ntmps81
  go_wp2_with fail
  clear c0 c1 e0 e1
  rw [← HW.out]
  refine (sDfaValid_c _ _ A W H.out).mono ?_
  rintro e w1 ⟨ok, rfl, hb1, hok⟩
  have hB1 := Lib.hid (Hb0.out.trans (hb1.mono Hb0.out.size))
  have K51 := Lib.hid (blkBel hb1 K5.out)
  have K41 := Lib.hid (blkBel hb1 K4.out)
  have H1 := Lib.hid (H.out.stay (kpB hb1))
  have H1' := Lib.hid (H'.out.stay (kpB hb1))
  clear hb1 K5 K4 H H' HW
  obtain ⟨c0, c1, _, _⟩ := blk2 K41.out
  obtain ⟨e0, e1, _, _⟩ := blk2 K51.out
  cases ok
  · have hno : ¬ (okD A ∧ okD B) := fun h => hbF hok h.1
    have HN := Lib.hid hno
    clear hok hno
    go_wp2
    go_ret2
    rw [prV_no HN.out, prB_no HN.out]
    exact ⟨rfl, hB1.out⟩
  · have hyA := Lib.hid (hbT hok)
    clear hok
    go_wp2_with fail
    clear c0 c1 e0 e1
    refine (sDfaValid_c _ _ B w1 H1'.out).mono ?_
    rintro e w2 ⟨ok, rfl, hb2, hok⟩
    have hB2 := Lib.hid (hB1.out.trans (hb2.mono hB1.out.size))
    have K52 := Lib.hid (blkBel hb2 K51.out)
    have K42 := Lib.hid (blkBel hb2 K41.out)
    have H2 := Lib.hid (H1.out.stay (kpB hb2))
    have H2' := Lib.hid (H1'.out.stay (kpB hb2))
    clear hb2 K51 K41 H1 H1'
    obtain ⟨c0, c1, _, _⟩ := blk2 K42.out
    obtain ⟨e0, e1, _, _⟩ := blk2 K52.out
    cases ok
    · have hno : ¬ (okD A ∧ okD B) := fun h => hbF hok h.2
      have HN := Lib.hid hno
      clear hok hno
      go_wp2
      go_ret2
      rw [prV_no HN.out, prB_no HN.out]
      exact ⟨rfl, hB2.out⟩
    · have hyB := Lib.hid (hbT hok)
      clear hok
      have HC := Lib.hid (l16First3_c _ _ _ _ A B w2 H2.out H2'.out hyA.out hyB.out)
      clear H2 H2'
      go_wp2_with fail
      clear c0 c1 e0 e1
      refine HC.out.mono ?_
      rintro e w3 ⟨rfl, hb3⟩
      have hB3 := Lib.hid (hB2.out.trans (hb3.mono hB2.out.size))
      have Hv : Hid (prV gApart A B = fstW (lg (pn A B) (pe gApart A B) (0, 0)) ∧ prB gApart A B = fwB (lg (pn A B) (pe gApart A B) (0, 0))) := Lib.hid (pr_yes hyA.out hyB.out)
      clear hb3 HC
      generalize fstW (lg (pn A B) (pe gApart A B) (0, 0)) = q1 at *
      generalize fwB (lg (pn A B) (pe gApart A B) (0, 0)) = q2 at *
      go_wp2
      go_ret2
      rw [Hv.out.1, Hv.out.2]
      exact ⟨rfl, hB3.out⟩
set_option maxHeartbeats 1000000 in
theorem sFirstExtra_c (vn ve un ue : Value) (A B : DfaD) (w : World) (h : DfaR S w vn ve A) (h' : DfaR T w un ue B) :
    Calls Try.prog 41 #[.agg #[vn, ve], .agg #[un, ue]] w (RO w (.tuple #[.string (prV gLess A B), .bool (prB gLess A B)])) := by
  obtain ⟨a, ca, b, d, rfl, rfl, hn, hm1⟩ := h.shapes
  obtain ⟨a', ca', b', d', rfl, rfl, hn', hm1'⟩ := h'.shapes
  obtain ⟨W, hW⟩ : ∃ W, W = (w.alloc (.cells #[.slice a A.1.length ca, .slice b A.2.length d] 26)).alloc (.cells #[.slice a' B.1.length ca', .slice b' B.2.length d'] 26) := ⟨_, rfl⟩
  have Hb0 : Hid (Below w.heap.size w W) := by rw [hW]; exact ((Below.refl _ _).alloc (Nat.le_refl _) _).alloc (by simp) _
  have K4 : Hid (W.heap[w.heap.size]? = some (.cells #[.slice a A.1.length ca, .slice b A.2.length d] 26 (0, 0))) := by rw [hW]; exact blkOld (blkNew _ _ rfl)
  have K5 : Hid (W.heap[w.heap.size + 1]? = some (.cells #[.slice a' B.1.length ca', .slice b' B.2.length d'] 26 (0, 0))) := by rw [hW]; exact blkNew _ _ (by simp)
  have H := Lib.hid (h.stay (kpB Hb0.out))
  have H' := Lib.hid (h'.stay (kpB Hb0.out))
  have HW := Lib.hid hW
  clear h h' hW
  obtain ⟨c0, c1, _, _⟩ := blk2 K4.out
  obtain ⟨e0, e1, _, _⟩ := blk2 K5.out
  rw [HW.out] at c0 c1 e0 e1
  go_enter Try.func41, Try.ntmps41
  go_wp2_with fail
  clear c0 c1 e0 e1
  rw [← HW.out]
  refine (sDfaValid_c _ _ A W H.out).mono ?_
  rintro e w1 ⟨ok, rfl, hb1, hok⟩
  have hB1 := Lib.hid (Hb0.out.trans (hb1.mono Hb0.out.size))
  have K51 := Lib.hid (blkBel hb1 K5.out)
  have K41 := Lib.hid (blkBel hb1 K4.out)
  have H1 := Lib.hid (H.out.stay (kpB hb1))
  have H1' := Lib.hid (H'.out.stay (kpB hb1))
  clear hb1 K5 K4 H H' HW
  obtain ⟨c0, c1, _, _⟩ := blk2 K41.out
  obtain ⟨e0, e1, _, _⟩ := blk2 K51.out
  cases ok
  · have hno : ¬ (okD A ∧ okD B) := fun h => hbF hok h.1
    have HN := Lib.hid hno
    clear hok hno
    go_wp2
    go_ret2
    rw [prV_no HN.out, prB_no HN.out]
    exact ⟨rfl, hB1.out⟩
  · have hyA := Lib.hid (hbT hok)
    clear hok
    go_wp2_with fail
    clear c0 c1 e0 e1
    refine (sDfaValid_c _ _ B w1 H1'.out).mono ?_
    rintro e w2 ⟨ok, rfl, hb2, hok⟩
    have hB2 := Lib.hid (hB1.out.trans (hb2.mono hB1.out.size))
    have K52 := Lib.hid (blkBel hb2 K51.out)
    have K42 := Lib.hid (blkBel hb2 K41.out)
    have H2 := Lib.hid (H1.out.stay (kpB hb2))
    have H2' := Lib.hid (H1'.out.stay (kpB hb2))
    clear hb2 K51 K41 H1 H1'
    obtain ⟨c0, c1, _, _⟩ := blk2 K42.out
    obtain ⟨e0, e1, _, _⟩ := blk2 K52.out
    cases ok
    · have hno : ¬ (okD A ∧ okD B) := fun h => hbF hok h.2
      have HN := Lib.hid hno
      clear hok hno
      go_wp2
      go_ret2
      rw [prV_no HN.out, prB_no HN.out]
      exact ⟨rfl, hB2.out⟩
    · have hyB := Lib.hid (hbT hok)
      clear hok
      have HC := Lib.hid (l16First2_c _ _ _ _ A B w2 H2.out H2'.out hyA.out hyB.out)
      clear H2 H2'
      go_wp2_with fail
      clear c0 c1 e0 e1
      refine HC.out.mono ?_
      rintro e w3 ⟨rfl, hb3⟩
      have hB3 := Lib.hid (hB2.out.trans (hb3.mono hB2.out.size))
      have Hv : Hid (prV gLess A B = fstW (lg (pn A B) (pe gLess A B) (0, 0)) ∧ prB gLess A B = fwB (lg (pn A B) (pe gLess A B) (0, 0))) := Lib.hid (pr_yes hyA.out hyB.out)
      clear hb3 HC
      generalize fstW (lg (pn A B) (pe gLess A B) (0, 0)) = q1 at *
      generalize fwB (lg (pn A B) (pe gLess A B) (0, 0)) = q2 at *
      go_wp2
      go_ret2
      rw [Hv.out.1, Hv.out.2]
      exact ⟨rfl, hB3.out⟩
set_option maxHeartbeats 1000000 in
theorem sFirstOf_c (vn ve : Value) (D : DfaD) (w : World) (h : DfaR S w vn ve D) : Calls Try.prog 35 #[.agg #[vn, ve]] w (RO w (.tuple #[.string (foV D), .bool (foB D)])) := by
  obtain ⟨a, c, b, d, rfl, rfl, hn, hm⟩ := (h).shapes
  obtain ⟨W, hW⟩ : ∃ W, W = w.alloc (.cells #[.slice a D.1.length c, .slice b D.2.length d] 26) := ⟨_, rfl⟩
  have Hb0 : Hid (Below w.heap.size w W) := by rw [hW]; exact (Below.refl _ _).alloc (Nat.le_refl _) _
  have c0 : W.cell? ⟨w.heap.size, 0, none⟩ = some (.slice a D.1.length c) := by rw [hW, World.cell?_alloc_mark]; rfl
  have c1 : W.cell? ⟨w.heap.size, 1, none⟩ = some (.slice b D.2.length d) := by rw [hW, World.cell?_alloc_mark]; rfl
  have K0 : Hid (W.heap[w.heap.size]? = some (.cells #[.slice a D.1.length c, .slice b D.2.length d] 26 (0, 0))) := by rw [hW]; exact blkNew _ _ rfl
  have Hz : Hid (W.heap.size = w.heap.size + 1) := by rw [hW]; simp [Hid]
  have H := Lib.hid ((h).stay (kpB Hb0.out)); clear h
  have HW := Lib.hid hW; clear hW
  rw [HW.out] at c0 c1
  go_enter Try.func35, Try.ntmps35
  go_wp2_with fail
  clear c0 c1
  rw [← HW.out]
  refine (sDfaValid_c _ _ D W H.out).mono ?_
  rintro e w1 ⟨ok, rfl, hb1, hok⟩
  have hB := Lib.hid (Hb0.out.trans (hb1.mono Hb0.out.size))
  have H1 := Lib.hid (H.out.stay (kpB hb1))
  obtain ⟨c0, c1, _, _⟩ := blk2 (blkBel hb1 K0.out)
  clear hb1 H HW
  cases ok
  · have hno := Lib.hid (hbF hok)
    clear hok
    go_wp2
    go_ret2
    rw [(fo_no hno.out).1, (fo_no hno.out).2]
    exact ⟨rfl, hB.out⟩
  · have hyes := Lib.hid (hbT hok)
    clear hok
    have Hv := Lib.hid (fo_yes hyes.out)
    have HC := l16First1_c _ _ _ _ D D w1 H1.out H1.out hyes.out hyes.out
    rw [same_lg] at HC
    have HC := Lib.hid HC
    go_wp2_with fail
    clear c0 c1
    refine HC.out.mono ?_
    rintro e w2 ⟨rfl, hb2⟩
    have hB2 := Lib.hid (hB.out.trans (hb2.mono hB.out.size))
    clear hb2 HC
    generalize fstW (lgD D) = q1 at *
    generalize fwB (lgD D) = q2 at *
    go_wp2
    go_ret2
    rw [Hv.out.1, Hv.out.2]
    exact ⟨rfl, hB2.out⟩
set_option maxHeartbeats 1000000 in
theorem sSameLanguage_c (vn ve un ue : Value) (A B : DfaD) (w : World) (h : DfaR S w vn ve A) (h' : DfaR T w un ue B) :
    Calls Try.prog 38 #[.agg #[vn, ve], .agg #[un, ue]] w (RO w (.bool (smB A B))) := by
  obtain ⟨a, ca, b, d, rfl, rfl, hn, hm1⟩ := h.shapes
  obtain ⟨a', ca', b', d', rfl, rfl, hn', hm1'⟩ := h'.shapes
  obtain ⟨W, hW⟩ : ∃ W, W = (w.alloc (.cells #[.slice a A.1.length ca, .slice b A.2.length d] 26)).alloc (.cells #[.slice a' B.1.length ca', .slice b' B.2.length d'] 26) := ⟨_, rfl⟩
  have Hb0 : Hid (Below w.heap.size w W) := by rw [hW]; exact ((Below.refl _ _).alloc (Nat.le_refl _) _).alloc (by simp) _
  have K4 : Hid (W.heap[w.heap.size]? = some (.cells #[.slice a A.1.length ca, .slice b A.2.length d] 26 (0, 0))) := by rw [hW]; exact blkOld (blkNew _ _ rfl)
  have K5 : Hid (W.heap[w.heap.size + 1]? = some (.cells #[.slice a' B.1.length ca', .slice b' B.2.length d'] 26 (0, 0))) := by rw [hW]; exact blkNew _ _ (by simp)
  have H := Lib.hid (h.stay (kpB Hb0.out))
  have H' := Lib.hid (h'.stay (kpB Hb0.out))
  have HW := Lib.hid hW
  clear h h' hW
  obtain ⟨c0, c1, _, _⟩ := blk2 K4.out
  obtain ⟨e0, e1, _, _⟩ := blk2 K5.out
  rw [HW.out] at c0 c1 e0 e1
  go_enter Try.func38, Try.ntmps38
  go_wp2_with fail
  clear c0 c1 e0 e1
  rw [← HW.out]
  refine (sFirstDiffer_c _ _ _ _ A B W H.out H'.out).mono ?_
  rintro e w0 ⟨rfl, hb0⟩
  have hB0 := Lib.hid (Hb0.out.trans (hb0.mono Hb0.out.size))
  have K50 := Lib.hid (blkBel hb0 K5.out)
  have K40 := Lib.hid (blkBel hb0 K4.out)
  have H0 := Lib.hid (H.out.stay (kpB hb0))
  have H0' := Lib.hid (H'.out.stay (kpB hb0))
  clear hb0 K5 K4 H H' HW
  obtain ⟨qs, hqs⟩ : ∃ q, q = prV gApart A B := ⟨_, rfl⟩
  obtain ⟨qb, hqb⟩ : ∃ q, q = prB gApart A B := ⟨_, rfl⟩
  rw [← hqs, ← hqb]
  have Hqb := Lib.hid hqb
  clear hqs hqb
  obtain ⟨c0, c1, _, _⟩ := blk2 K40.out
  obtain ⟨e0, e1, _, _⟩ := blk2 K50.out
  go_wp2_with fail
  clear c0 c1 e0 e1
  refine (sDfaValid_c _ _ A w0 H0.out).mono ?_
  rintro e w1 ⟨ok, rfl, hb1, hok⟩
  have hB1 := Lib.hid (hB0.out.trans (hb1.mono hB0.out.size))
  have K51 := Lib.hid (blkBel hb1 K50.out)
  have K41 := Lib.hid (blkBel hb1 K40.out)
  have H1 := Lib.hid (H0.out.stay (kpB hb1))
  have H1' := Lib.hid (H0'.out.stay (kpB hb1))
  clear hb1 K50 K40 H0 H0'
  obtain ⟨c0, c1, _, _⟩ := blk2 K41.out
  obtain ⟨e0, e1, _, _⟩ := blk2 K51.out
  cases ok
  · have hno : ¬ (okD A ∧ okD B) := fun h => hbF hok h.1
    have HN := Lib.hid hno
    clear hok hno
    go_wp2
    go_ret
    rw [smB_no HN.out]
    exact ⟨rfl, hB1.out⟩
  · have hyA := Lib.hid (hbT hok)
    clear hok
    go_wp2_with fail
    clear c0 c1 e0 e1
    refine (sDfaValid_c _ _ B w1 H1'.out).mono ?_
    rintro e w2 ⟨ok, rfl, hb2, hok⟩
    have hB2 := Lib.hid (hB1.out.trans (hb2.mono hB1.out.size))
    clear hb2 K51 K41 H1 H1'
    cases ok
    · have hno : ¬ (okD A ∧ okD B) := fun h => hbF hok h.2
      have HN := Lib.hid hno
      clear hok hno
      go_wp2
      go_ret
      rw [smB_no HN.out]
      exact ⟨rfl, hB2.out⟩
    · have hyB := Lib.hid (hbT hok)
      clear hok
      have Hv : Hid (smB A B = !qb) := by
        rw [smB_yes hyA.out hyB.out, Hqb.out, (pr_yes hyA.out hyB.out).2]; exact Lib.hid rfl
      go_wp2
      go_ret
      rw [Hv.out]
      exact ⟨rfl, hB2.out⟩
end Go.Proofs.Ytebcnamfpajneaa
