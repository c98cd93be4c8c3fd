/- A text and a word to replace in it are drawn. -/
import Derived.Test.YtcbhfopabgiiiaaFin
set_option linter.unusedSimpArgs false
set_option linter.unusedVariables false
set_option linter.unusedSectionVars false
namespace Go.Proofs.Ytcbhfopabgiiiaa
open Go.RowKit
set_option maxRecDepth 100000
variable {S T : Nat → Prop}
theorem extract_size_le9 (s : ByteArray) (a b : Nat) : (s.extract a b).size ≤ s.size := by simp [ByteArray.size_extract]; omega
set_option maxHeartbeats 2000000 in
theorem DrawReplaceAll_c (v : Value) (bs : List UInt8) (w : World) (h : Bytes S w v bs) : Calls Try.prog 31 #[v] w (RDss w) := by
  obtain ⟨W, hW⟩ : ∃ W, W = w.alloc (.cells #[.slice none 0 0, .slice none 0 0] 26) := ⟨_, rfl⟩
  have Hb0 : Hid (Below w.heap.size w W) := by rw [hW]; exact (Below.refl _ _).alloc (Nat.le_refl _) _
  have K2 : Hid (W.heap[w.heap.size]? = some (.cells #[.slice none 0 0, .slice none 0 0] 26 (0, 0))) := by rw [hW]; exact blkNew _ _ rfl
  have hz : Hid (W.heap.size = w.heap.size + 1) := by rw [hW]; simp [Hid]
  have H := Lib.hid (h.stay (kpB Hb0.out)); clear h
  have HW := Lib.hid hW; clear hW
  go_enter Try.func31, Try.ntmps31
  go_wp2_with fail
  rw [← HW.out]
  clear HW
  refine (open_x _ _ W H.out).mono ?_
  rintro e w2 ⟨rb, rfl, hrb, hb2, hr2⟩
  have hz2 := hz.out
  have hs2 := hb2.size
  go_wp2_with fail
  refine (l20Finite_c rb 0 14 w2 hr2.out (by omega) (by omega)).mono ?_
  rintro e w3 ⟨D, v1, v2, p3, rfl, hp3, hd3, hr3, hD3⟩
  obtain ⟨aN, cN, aE, cE, rfl, rfl, _, _⟩ := hD3.out.shapes
  have K3 := Lib.hid (hd3.blk (blkBel hb2 K2.out) (by omega))
  have hrl := hr3.out.lt
  have hrl2 := hr2.out.lt
  have hs3 := hd3.size
  have HB3 := Lib.hid ((Hb0.out.trans (hb2.mono (by omega))).trans (hd3.bel (B := w.heap.size) (by omega) (by omega)))
  obtain ⟨W3, hW3⟩ : ∃ x, x = w3.alloc (.cells #[.slice aN D.1.length cN, .slice aE D.2.length cE] 26) := ⟨_, rfl⟩
  have hb3 : Below w3.heap.size w3 W3 := by rw [hW3]; exact (Below.refl _ _).alloc (Nat.le_refl _) _
  have K33 := Lib.hid (blkBel hb3 K3.out)
  have K5 : Hid (W3.heap[w3.heap.size]? = some (.cells #[.slice aN D.1.length cN, .slice aE D.2.length cE] 26 (0, 0))) := by rw [hW3]; exact blkNew _ _ rfl
  have HR3 := Lib.hid (hr3.out.stay hb3)
  have HD3 := Lib.hid (hD3.out.stay (kpB hb3))
  have HB4 := Lib.hid (HB3.out.trans (hb3.mono HB3.out.size))
  have hz3 : W3.heap.size = w3.heap.size + 1 := by rw [hW3]; simp
  have HW3 := Lib.hid hW3
  obtain ⟨c0, c1, c2, c3⟩ := blk2 K5.out
  clear hW3 hb3 K3 hr3 hD3 HB3 K2 H
  rw [HW3.out] at c0 c1
  go_wp2_with fail
  rw [← HW3.out] at c0 c1 ⊢
  clear HW3
  refine (l20Long_x rb p3 14 _ HR3.out (by omega) (by omega)).mono ?_
  rintro e w4 ⟨s, p4, rfl, hs, hp4, hd4, hr4⟩
  have K46 := Lib.hid (hd4.blk K33.out (by omega))
  have K56 := Lib.hid (hd4.blk K5.out (by omega))
  have hs4 := hd4.size
  have HD4 := Lib.hid (HD3.out.stay (w' := w4) ((hd4.kp (rb := rb)).mono fun b h => by have h' : w2.heap.size ≤ b := h; show b ≠ rb; omega))
  have HB5 := Lib.hid (HB4.out.trans (hd4.bel (B := w.heap.size) (by omega) (by omega)))
  clear HB4 HD3 HR3 K33 K5 c0 c1 c2 c3
  go_wp2_with fail
  refine (l20Word_x rb p4 14 _ hr4.out (by omega) (by omega)).mono ?_
  rintro e w5 ⟨x, p5, rfl, hx, hp5, hd5, hr5⟩
  have K6 := Lib.hid (hd5.blk K46.out (by omega))
  have K7 := Lib.hid (hd5.blk K56.out (by omega))
  have hs5 := hd5.size
  have HD5 := Lib.hid (HD4.out.stay (w' := w5) ((hd5.kp (rb := rb)).mono fun b h => by have h' : w2.heap.size ≤ b := h; show b ≠ rb; omega))
  have HB6 := Lib.hid (HB5.out.trans (hd5.bel (B := w.heap.size) (by omega) (by omega)))
  have hne : w3.heap.size ≠ w.heap.size := by omega
  clear HB5 HD4 K46 K56 hd4 hr4 hd5 hr5
  obtain ⟨q0, q1, q2, q3⟩ := blk2 K6.out
  obtain ⟨c0, c1, c2, c3⟩ := blk2 K7.out
  have hS : Hid (∀ w', Kp (· = w3.heap.size) w5 w' → w'.cell? ⟨w3.heap.size, 0, none⟩ = some (.slice aN D.1.length cN) ∧ w'.cell? ⟨w3.heap.size, 1, none⟩ = some (.slice aE D.2.length cE)) := fun w' hk => ⟨hk _ _ rfl (blk2 K7.out).1, hk _ _ rfl (blk2 K7.out).2.1⟩
  have hk0 : Kp (· = w3.heap.size) w5 w5.drew := fun _ _ _ e => e
  have hS1 := Lib.hid (hS.out _ hk0)
  have hS2 := Lib.hid (hS.out _ (Kp.trans hk0 (kpTwo (.slice aN D.1.length cN) (.slice aE D.2.length cE) hne)))
  obtain ⟨Z, hZ⟩ : ∃ Z, Z = ((w5.setCell ⟨w.heap.size, 0, none⟩ (.slice aN D.1.length cN)).setCell ⟨w.heap.size, 1, none⟩ (.slice aE D.2.length cE)).drew := ⟨_, rfl⟩
  have hkk : Kp (w.heap.size + 1 ≤ ·) w5 Z := by rw [hZ]; exact ((kpSet.mono fun b h => by omega).trans (kpSet.mono fun b h => by omega)).trans (fun _ _ _ e => e)
  have KZ : Hid (Z.heap[w.heap.size]? = some (.cells #[.slice aN D.1.length cN, .slice aE D.2.length cE] 26 (0, 0))) := by rw [hZ]; exact heap_set (heap_set K6.out 0 (.slice aN D.1.length cN)) 1 (.slice aE D.2.length cE)
  have hbZ : Below w.heap.size w Z := by rw [hZ]; exact ((HB6.out.setCell (p := ⟨w.heap.size, 0, none⟩) (Nat.le_refl _) _).setCell (p := ⟨w.heap.size, 1, none⟩) (Nat.le_refl _) _).drew
  have HDZ : Hid (DfaR (w.heap.size ≤ ·) Z (.slice aN D.1.length cN) (.slice aE D.2.length cE) D) := Lib.hid (((HD5.out.mono (T := (w.heap.size + 1 ≤ ·)) fun b h => by have h' : w2.heap.size ≤ b := h; omega).stay hkk).mono fun b h => by omega)
  have hfin : Hid (∀ x' : ByteArray, x'.size ≤ 1000 → RDss w (.returned (.tuple #[.agg #[.slice aN D.1.length cN, .slice aE D.2.length cE], .string s, .string x'])) Z) := Lib.hid fun x' h => ⟨D, _, _, s, x', rfl, by omega, h, hbZ, HDZ⟩
  obtain ⟨y0, y1, y2, y3⟩ := blk2 KZ.out
  clear HDZ KZ hbZ hkk
  have HZ := Lib.hid hZ; clear hZ
  by_cases h3 : 3 < x.size
  · have i3 : (3 : Int) < (x.size : Int) := by omega
    have j3 : ¬ ((x.size : Int) ≤ 3) := by omega
    have k3 : (3 : Int) ≤ (x.size : Int) := by omega
    have k0 : (0 : Int) ≤ (x.size : Int) := by omega
    have n3 : 3 ≤ x.size := by omega
    have v3 : IntKind.i64.wrap 3 = 3 := by decide
    go_wp2_with fail
    clear c0 c1 c2 c3 HB6 HD5
    go_region_held3 (fun w' => w'.cell? ⟨w3.heap.size, 0, none⟩ = some (.slice aN D.1.length cN) ∧ w'.cell? ⟨w3.heap.size, 1, none⟩ = some (.slice aE D.2.length cE))
      (first | (with_reducible exact hS1.out) | (with_reducible exact hS2.out) | exact hS.out _ hk0 | exact hS.out _ (Kp.trans hk0 (kpTwo _ _ hne)))
      (fail)
    all_goals (
      rw [← HZ.out]
      go_wp2
      refine bodyPost_ret (v := .tuple #[.agg #[.slice aN D.1.length cN, .slice aE D.2.length cE], .string s, .string (x.extract 0 3)]) (by simp [results, Try.results31, go_sem, y0, y1, y2]) rfl ?_
      exact hfin.out _ (by have := extract_size_le9 x 0 3; omega))
  · have i3 : (x.size : Int) ≤ 3 := by omega
    have j3 : ¬ ((3 : Int) < (x.size : Int)) := by omega
    have k0 : (0 : Int) ≤ (x.size : Int) := by omega
    have k1 : (x.size : Int) ≤ (x.size : Int) := by omega
    have n1 : x.size ≤ x.size := by omega
    go_wp2_with fail
    clear HB6 HD5
    go_region
    all_goals (
      rw [← HZ.out]
      go_wp2
      refine bodyPost_ret (v := .tuple #[.agg #[.slice aN D.1.length cN, .slice aE D.2.length cE], .string s, .string x]) (by simp [results, Try.results31, go_sem, y0, y1, y2]) rfl ?_
      exact hfin.out _ (by omega))
end Go.Proofs.Ytcbhfopabgiiiaa
