/- The beginnings of words: the program's and the reference's. -/
import Derived.Test.YtofamhgkiipagaaLed
import Derived.Test.YtofamhgkiipagaaSml
import Derived.Deep.RegionHeld3
namespace Go.Proofs.Ytofamhgkiipagaa
open Go.RowKit
set_option maxRecDepth 100000
variable {S T : Nat → Prop}
theorem led_own {w : World} {base : Nat} {v : Value} {D : DfaD} (h : w.ownsRow base 4 1 v D.1.length (fB D.1.length (leadB D))) : Bools (fun _ => True) w v (ledD D).2 := by
  have h1 := (ownFl h).fl
  unfold Bools
  have e1 : (ledD D).2.length = D.1.length := by simp [ledD]
  have e2 : (ledD D).2.map Value.bool = fB D.1.length (leadB D) := by simp [ledD, fB]
  rw [e1, e2]
  exact h1.mono (fun _ _ => trivial)
set_option maxHeartbeats 1000000 in
theorem DfaStarts_c (vn ve : Value) (D : DfaD) (w : World) (h : DfaR S w vn ve D) : Calls Try.prog 43 #[.agg #[vn, ve]] w (RD (orNo (okD D) (canon (lgD (ledD D)))) w) := by
  obtain ⟨a, ca, b, d, rfl, rfl, hn, hm⟩ := (h).shapes
  obtain ⟨W, hW⟩ : ∃ W, W = (w.alloc (.cells #[.slice a D.1.length ca, .slice b D.2.length d] 42)).alloc (.cells #[.slice none 0 0, .slice none 0 0] 42) := ⟨_, rfl⟩
  have Hb0 : Hid (Below w.heap.size w W) := by rw [hW]; exact ((Below.refl _ _).alloc (Nat.le_refl _) _).alloc (by simp) _
  have K0 : Hid (W.heap[w.heap.size]? = some (.cells #[.slice a D.1.length ca, .slice b D.2.length d] 42 (0, 0))) := by rw [hW]; exact blkOld (blkNew _ _ rfl)
  have K1 : Hid (W.heap[w.heap.size + 1]? = some (.cells #[.slice none 0 0, .slice none 0 0] 42 (0, 0))) := by rw [hW]; exact blkNew _ _ (by simp)
  have Hz : Hid (W.heap.size = w.heap.size + 2) := by rw [hW]; simp [Hid]
  have H := Lib.hid ((h).stay (kpB Hb0.out)); clear h
  have HW := Lib.hid hW; clear hW
  obtain ⟨c0, c1, _, _⟩ := blk2 K0.out
  rw [HW.out] at c0 c1
  go_enter Try.func43, Try.ntmps43
  go_wp2_with fail
  rw [← HW.out] at c0 c1 ⊢
  clear c0 c1
  refine (DfaValid_c _ _ D W H.out).mono ?_
  rintro e w1 ⟨ok, rfl, hb1, hok⟩
  have K0' := Lib.hid (blkBel hb1 K0.out)
  have K1' := Lib.hid (blkBel hb1 K1.out)
  have H' := Lib.hid (H.out.stay (kpB hb1))
  have hbw := Lib.hid (Hb0.out.trans (hb1.mono Hb0.out.size))
  have hz1 : w.heap.size + 2 ≤ w1.heap.size := by have := hb1.size; have := Hz.out; omega
  obtain ⟨c0, c1, _, _⟩ := blk2 K0'.out
  obtain ⟨z0, z1, y0, y1⟩ := blk2 K1'.out
  clear hb1 H K0 K1 Hz Hb0 HW
  cases ok
  · have hno := Lib.hid (hbF hok)
    clear hok
    go_wp2
    have f0 := cell_setOther (o := 1) (u := .slice none 0 0) (cell_setSame (u := .slice none 0 0) z0) (by omega)
    have f1 := cell_setSame (u := .slice none 0 0) (cell_setOther (o := 0) (u := .slice none 0 0) z1 (by omega))
    refine bodyPost_ret (v := .agg #[.slice none 0 0, .slice none 0 0]) (by simp [results, Try.results43, go_sem, f0, f1]) rfl ?_
    rw [orNo_neg hno.out]
    exact RD.nil hbw.out hz1
  · have hyes := Lib.hid (hbT hok)
    clear hok
    have HD1 : Hid (DfaR S w1.drew (.slice a D.1.length ca) (.slice b D.2.length d) D) := H'.out.stay (kpB ((Below.refl w1.heap.size w1).drew))
    have hbD : Hid (Below w.heap.size w w1.drew) := hbw.out.drew
    have K0D : Hid (w1.drew.heap[w.heap.size]? = some (.cells #[.slice a D.1.length ca, .slice b D.2.length d] 42 (0, 0))) := K0'.out
    have K1D : Hid (w1.drew.heap[w.heap.size + 1]? = some (.cells #[.slice none 0 0, .slice none 0 0] 42 (0, 0))) := K1'.out
    have hzd : w1.heap.size = w1.drew.heap.size := rfl
    go_wp2_with fail
    clear z0 z1 y0 y1
    have c0D : w1.drew.cell? ⟨w.heap.size, 0, none⟩ = some (.slice a D.1.length ca) := c0
    have c1D : w1.drew.cell? ⟨w.heap.size, 1, none⟩ = some (.slice b D.2.length d) := c1
    go_region_law
      (first | (go_simp
                refine (leading_c _ _ D w1.drew HD1.out hyes.out).mono ?_
                rintro e w2 ⟨v2, rfl, hb2, ho2⟩
                obtain ⟨a2, cap2, rfl, _⟩ := (ownFl ho2.out).shape
                have HO : Hid (DfaR (fun _ => True) w2 (.slice a D.1.length ca) (.slice a2 D.1.length cap2) (ledD D)) := ⟨(HD1.out.1.stay (kpB hb2)).mono (fun _ _ => trivial), led_own ho2.out⟩
                have Kr := Lib.hid (blkBel hb2 K1D.out)
                have hbr := Lib.hid (hbD.out.trans (hb2.mono hbD.out.size))
                have hzr := hb2.size
                have c0E := (blk2 (blkBel hb2 K0D.out)).1)
             | (go_simp
                refine (minimize_c _ _ (ledD D) w2 HO.out (led_ok hyes.out)).mono ?_
                rintro e w6 ⟨r1, r2, rfl, hb6, hd6⟩
                have HRf := Lib.hid hd6.out.rd
                have HDf := hd6
                clear hd6
                obtain ⟨an, cn', bn, cb, rfl, rfl, _, _⟩ := HRf.out.shapes
                obtain ⟨z0, z1, y0, y1⟩ := blk2 (blkBel hb6 Kr.out)
                have hb3 := hbr.out.trans (hb6.mono hbr.out.size)
                have hsz6 := hb6.size))
    all_goals (
      generalize canon (lgD (ledD D)) = C at *
      go_wp2
      have f0 := cell_setOther (o := 1) (u := .slice bn C.2.length cb) (cell_setSame (u := .slice an C.1.length cn') z0) (by omega)
      have f1 := cell_setSame (u := .slice bn C.2.length cb) (cell_setOther (o := 0) (u := .slice an C.1.length cn') z1 (by omega))
      refine bodyPost_ret (v := .agg #[.slice an C.1.length cn', .slice bn C.2.length cb]) (by simp [results, Try.results43, go_sem, f0, f1]) rfl ?_
      rw [orNo_pos hyes.out]
      exact RD.fin hb3 (by omega) (HDf.out.mono (fun b hb => ⟨⟨by omega, hb.2⟩, by omega⟩)))
set_option maxHeartbeats 1000000 in
theorem sDfaStarts_c (vn ve : Value) (D : DfaD) (w : World) (h : DfaR S w vn ve D) : Calls Try.prog 42 #[.agg #[vn, ve]] w (RD (orNo (okD D) (canon (lgD (ledD D)))) w) := by
  obtain ⟨a, ca, b, d, rfl, rfl, hn, hm⟩ := (h).shapes
  obtain ⟨W, hW⟩ : ∃ W, W = (w.alloc (.cells #[.slice a D.1.length ca, .slice b D.2.length d] 42)).alloc (.cells #[.slice none 0 0, .slice none 0 0] 42) := ⟨_, rfl⟩
  have Hb0 : Hid (Below w.heap.size w W) := by rw [hW]; exact ((Below.refl _ _).alloc (Nat.le_refl _) _).alloc (by simp) _
  have K0 : Hid (W.heap[w.heap.size]? = some (.cells #[.slice a D.1.length ca, .slice b D.2.length d] 42 (0, 0))) := by rw [hW]; exact blkOld (blkNew _ _ rfl)
  have K1 : Hid (W.heap[w.heap.size + 1]? = some (.cells #[.slice none 0 0, .slice none 0 0] 42 (0, 0))) := by rw [hW]; exact blkNew _ _ (by simp)
  have Hz : Hid (W.heap.size = w.heap.size + 2) := by rw [hW]; simp [Hid]
  have H := Lib.hid ((h).stay (kpB Hb0.out)); clear h
  have HW := Lib.hid hW; clear hW
  obtain ⟨c0, c1, _, _⟩ := blk2 K0.out
  rw [HW.out] at c0 c1
  go_enter Try.func42, Try.ntmps42
  go_wp2_with fail
  rw [← HW.out] at c0 c1 ⊢
  clear c0 c1
  refine (sDfaValid_c _ _ D W H.out).mono ?_
  rintro e w1 ⟨ok, rfl, hb1, hok⟩
  have K0' := Lib.hid (blkBel hb1 K0.out)
  have K1' := Lib.hid (blkBel hb1 K1.out)
  have H' := Lib.hid (H.out.stay (kpB hb1))
  have hbw := Lib.hid (Hb0.out.trans (hb1.mono Hb0.out.size))
  have hz1 : w.heap.size + 2 ≤ w1.heap.size := by have := hb1.size; have := Hz.out; omega
  obtain ⟨c0, c1, _, _⟩ := blk2 K0'.out
  obtain ⟨z0, z1, y0, y1⟩ := blk2 K1'.out
  clear hb1 H K0 K1 Hz Hb0 HW
  cases ok
  · have hno := Lib.hid (hbF hok)
    clear hok
    go_wp2
    have f0 := cell_setOther (o := 1) (u := .slice none 0 0) (cell_setSame (u := .slice none 0 0) z0) (by omega)
    have f1 := cell_setSame (u := .slice none 0 0) (cell_setOther (o := 0) (u := .slice none 0 0) z1 (by omega))
    refine bodyPost_ret (v := .agg #[.slice none 0 0, .slice none 0 0]) (by simp [results, Try.results42, go_sem, f0, f1]) rfl ?_
    rw [orNo_neg hno.out]
    exact RD.nil hbw.out hz1
  · have hyes := Lib.hid (hbT hok)
    clear hok
    have HD1 : Hid (DfaR S w1.drew (.slice a D.1.length ca) (.slice b D.2.length d) D) := H'.out.stay (kpB ((Below.refl w1.heap.size w1).drew))
    have hbD : Hid (Below w.heap.size w w1.drew) := hbw.out.drew
    have K0D : Hid (w1.drew.heap[w.heap.size]? = some (.cells #[.slice a D.1.length ca, .slice b D.2.length d] 42 (0, 0))) := K0'.out
    have K1D : Hid (w1.drew.heap[w.heap.size + 1]? = some (.cells #[.slice none 0 0, .slice none 0 0] 42 (0, 0))) := K1'.out
    have hzd : w1.heap.size = w1.drew.heap.size := rfl
    go_wp2_with fail
    clear z0 z1 y0 y1
    have c0D : w1.drew.cell? ⟨w.heap.size, 0, none⟩ = some (.slice a D.1.length ca) := c0
    have c1D : w1.drew.cell? ⟨w.heap.size, 1, none⟩ = some (.slice b D.2.length d) := c1
    go_region_law
      (first | (go_simp
                refine (l14Useful_c _ _ D w1.drew HD1.out hyes.out).mono ?_
                rintro e w2 ⟨v2, rfl, hb2, ho2⟩
                obtain ⟨a2, cap2, rfl, _⟩ := (ownFl ho2.out).shape
                have HO : Hid (DfaR (fun _ => True) w2 (.slice a D.1.length ca) (.slice a2 D.1.length cap2) (ledD D)) := ⟨(HD1.out.1.stay (kpB hb2)).mono (fun _ _ => trivial), led_own ho2.out⟩
                have Kr := Lib.hid (blkBel hb2 K1D.out)
                have hbr := Lib.hid (hbD.out.trans (hb2.mono hbD.out.size))
                have hzr := hb2.size
                have c0E := (blk2 (blkBel hb2 K0D.out)).1)
             | (go_simp
                refine (l10Small_c _ _ (ledD D) w2 HO.out (led_ok hyes.out)).mono ?_
                rintro e w6 ⟨r1, r2, rfl, hb6, hd6⟩
                have HRf := Lib.hid hd6.out.rd
                have HDf := hd6
                clear hd6
                obtain ⟨an, cn', bn, cb, rfl, rfl, _, _⟩ := HRf.out.shapes
                obtain ⟨z0, z1, y0, y1⟩ := blk2 (blkBel hb6 Kr.out)
                have hb3 := hbr.out.trans (hb6.mono hbr.out.size)
                have hsz6 := hb6.size))
    all_goals (
      generalize canon (lgD (ledD D)) = C at *
      go_wp2
      have f0 := cell_setOther (o := 1) (u := .slice bn C.2.length cb) (cell_setSame (u := .slice an C.1.length cn') z0) (by omega)
      have f1 := cell_setSame (u := .slice bn C.2.length cb) (cell_setOther (o := 0) (u := .slice an C.1.length cn') z1 (by omega))
      refine bodyPost_ret (v := .agg #[.slice an C.1.length cn', .slice bn C.2.length cb]) (by simp [results, Try.results42, go_sem, f0, f1]) rfl ?_
      rw [orNo_pos hyes.out]
      exact RD.fin hb3 (by omega) (HDf.out.mono (fun b hb => ⟨⟨by omega, hb.2⟩, by omega⟩)))
end Go.Proofs.Ytofamhgkiipagaa
