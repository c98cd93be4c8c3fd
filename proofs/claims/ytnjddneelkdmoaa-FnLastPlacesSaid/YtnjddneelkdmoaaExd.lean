/- Expressions drawn, perhaps spoilt ones. -/
import Derived.Test.YtnjddneelkdmoaaMke
import Derived.Deep.RegionHeld3
set_option linter.unusedSimpArgs false
set_option linter.unusedVariables false
set_option linter.unusedSectionVars false
namespace Go.Proofs.Ytnjddneelkdmoaa
open Go.RowKit
set_option maxRecDepth 100000
variable {S T : Nat → Prop}
/-- A part was drawn. -/
def DxP (rb p c : Nat) (w : World) (e : Ending) (w' : World) : Prop := ∃ (x y : Int) (p' : Nat), e = .returned (.agg #[.int .i64 x, .int .i64 y]) ∧ p' ≤ p + c ∧ Dr rb w w' ∧ Hid (Rdx w' rb p')
theorem heapne {w : World} {b b' : Nat} {ob : Obj} (hne : b' ≠ b) (h : w.heap[b]? = some ob) (o : Nat) (v : Value) : (w.setCell ⟨b', o, none⟩ v).heap[b]? = some ob := by rw [Below.heap_setCell _ _ _ _ (by simpa using hne.symm)]; exact h
set_option maxHeartbeats 2000000 in
theorem l20Part_x (rb p : Nat) (n : Int) (w : World) (h : Rdx w rb p) (hp : p ≤ 900000) (hn1 : -9223372036854775808 < n) :
    Calls Try.prog 142 #[.pointer (some ⟨rb, 0, none⟩), .int .i64 n] w (DxP rb p 6 w) := by
  have hlt0 := h.lt
  obtain ⟨W, hW⟩ : ∃ W, W = w.alloc (.cells #[.int .i64 0, .int .i64 0] 52) := ⟨_, rfl⟩
  have Hb0 : Hid (Below w.heap.size w W) := by rw [hW]; exact (Below.refl _ _).alloc (Nat.le_refl _) _
  have K4 : Hid (W.heap[w.heap.size]? = some (.cells #[.int .i64 0, .int .i64 0] 52 (0, 0))) := by rw [hW]; exact blkNew _ _ rfl
  have H := Lib.hid (h.stay Hb0.out); clear h
  have HD0 := Lib.hid (Dr.below (rb := rb) Hb0.out)
  have HW := Lib.hid hW; clear hW Hb0
  go_enter Try.func142, Try.ntmps142
  go_wp2_with fail
  rw [← HW.out]; clear HW
  refine (pick_x rb p _ W H.out (by omega)).mono ?_
  rintro e w1 ⟨k, rfl, hk0, hk1, hd1, hr1, hzz⟩; clear hzz
  have hk8 : k ≤ 7 := by omega
  clear hk1 H
  have K41 := Lib.hid (hd1.blk K4.out (by omega))
  have HD1 := Lib.hid (HD0.out.trans hd1)
  have hs1 := HD1.out.size
  clear HD0 hd1 K4
  have hs41 : w.heap.size < w1.heap.size := (Array.getElem?_eq_some_iff.1 K41.out).1
  have hne : w.heap.size ≠ w1.heap.size := by omega
  have hne' : w1.heap.size ≠ w.heap.size := by omega
  have hrl : rb < w1.heap.size := hr1.out.lt
  by_cases hk3 : k = 2
  · subst hk3
    clear hk8 hk0
    obtain ⟨W2, hW2⟩ : ∃ x, x = w1.alloc (.cells #[.int .i64 3, .int .i64 0] 52) := ⟨_, rfl⟩
    have hb2 : Below w1.heap.size w1 W2 := by rw [hW2]; exact (Below.refl _ _).alloc (Nat.le_refl _) _
    have K42 := Lib.hid (blkBel hb2 K41.out)
    have K52 : Hid (W2.heap[w1.heap.size]? = some (.cells #[.int .i64 3, .int .i64 0] 52 (0, 0))) := by rw [hW2]; exact blkNew _ _ rfl
    have HR2 := Lib.hid (hr1.out.stay hb2)
    have HD2 := Lib.hid (HD1.out.trans (Dr.below hb2))
    have HW2 := Lib.hid hW2
    clear hW2 hb2 K41 HD1 hr1
    obtain ⟨a0, a1, a2, a3⟩ := blk2 K52.out
    rw [HW2.out] at a0 a1 a2 a3
    go_wp2_with fail
    rw [← HW2.out]; clear HW2 a0 a1 a2 a3
    refine (pick_x rb (p + 1) _ W2 HR2.out (by omega)).mono ?_
    rintro e w3 ⟨y, rfl, hy0, hy1, hd3, hr3, hzz⟩; clear hzz hy0 hy1
    have K43 := Lib.hid (heapne hne' (hd3.blk K42.out (by omega)) 1 (.int .i64 y))
    have K53 := Lib.hid (heap_set (hd3.blk K52.out (by omega)) 1 (.int .i64 y))
    have HD3 := Lib.hid ((HD2.out.trans hd3).setCell (g := w1.heap.size) (o := 1) hs1 (.int .i64 y))
    have HR3 := Lib.hid (hr3.out.set (g := w1.heap.size) (o := 1) (by omega) (.int .i64 y))
    have K533 := Lib.hid (hd3.blk K52.out (by omega))
    obtain ⟨b0, b1, b2, b3⟩ := blk2 K533.out
    clear hd3 hr3 K42 K52 HD2 HR2
    obtain ⟨c0, c1, c2, c3⟩ := blk2 K53.out
    obtain ⟨d0, d1, d2, d3⟩ := blk2 K43.out
    go_wp2_with fail
    refine (odd_x rb (p + 1 + 1) _ _ HR3.out (by omega) hn1).mono ?_
    rintro e w5 ⟨b, p5, rfl, hp5, hd5, hr5, hzz⟩; clear hzz
    have K45 := Lib.hid (hd5.blk K43.out (by omega))
    have K55 := Lib.hid (hd5.blk K53.out (by omega))
    have HD5 := Lib.hid (HD3.out.trans hd5)
    clear c0 c1 c2 c3 d0 d1 d2 d3 hd5
    cases b
    · skip
      obtain ⟨z0, z1, z2, z3⟩ := blk2 (heap_set (heap_set K45.out 0 (.int .i64 3)) 1 (.int .i64 y))
      obtain ⟨c0, c1, c2, c3⟩ := blk2 K55.out
      obtain ⟨d0, d1, d2, d3⟩ := blk2 K45.out
      go_wp2
      refine bodyPost_ret (v := .agg #[.int .i64 3, .int .i64 y]) (by simp [results, Try.results142, go_sem, z0, z1, z2]) rfl ?_
      exact ⟨_, _, p5, rfl, by omega, (HD5.out.setCell (Nat.le_refl _) _).setCell (Nat.le_refl _) _, (hr5.out.set (by omega) _).set (by omega) _⟩
    · skip
      obtain ⟨c0, c1, c2, c3⟩ := blk2 K55.out
      obtain ⟨d0, d1, d2, d3⟩ := blk2 K45.out
      go_wp2_with fail
      refine (pick_x rb p5 _ _ hr5.out (by omega)).mono ?_
      rintro e w6 ⟨q, rfl, hq0, hq1, hd6, hr6, hzz⟩; clear hzz
      have K46 := Lib.hid (hd6.blk K45.out (by omega))
      have K56 := Lib.hid (hd6.blk K55.out (by omega))
      have HD6 := Lib.hid (HD5.out.trans hd6)
      have hlt6 := hr6.out.lt
      have hs6 := HD6.out.size
      have hs16 : w1.heap.size < w6.heap.size := (Array.getElem?_eq_some_iff.1 K56.out).1
      clear c0 c1 c2 c3 d0 d1 d2 d3 hd6
      rcases (by omega : q = 0 ∨ q = 1) with rfl | rfl
      · clear hq0 hq1
        obtain ⟨c0, c1, c2, c3⟩ := blk2 K56.out
        obtain ⟨d0, d1, d2, d3⟩ := blk2 K46.out
        go_wp2_with fail
        refine (pick_x rb (p5 + 1) _ _ (hr6.out.stay ((Below.refl _ _).alloc (Nat.le_refl _) _)) (by omega)).mono ?_
        rintro e w7 ⟨r, rfl, hr0, hr1, hd7, hr7, hzz⟩; clear hzz
        have hcell : ∀ (j : Nat) (v : Value), (#[Value.int .i64 0, .int .i64 9] : Array Value)[j]? = some v → w7.cell? ⟨w6.heap.size, j, none⟩ = some v :=
          fun j v h => hd7.kp _ _ (by show w6.heap.size ≠ rb; omega) (by rw [World.cell?_alloc_mark]; exact h)
        have hc0 := hcell 0 _ rfl
        have hc1 := hcell 1 _ rfl
        clear hcell
        have K47 := Lib.hid (hd7.blk (blkOld K46.out) (by omega))
        have K57 := Lib.hid (hd7.blk (blkOld K56.out) (by omega))
        have HD7 := Lib.hid ((HD6.out.alloc _).trans hd7)
        clear hd7 c0 c1 c2 c3 d0 d1 d2 d3
        rcases (by omega : r = 0 ∨ r = 1) with rfl | rfl
        · clear hr0 hr1
          obtain ⟨e0, e1, e2, e3⟩ := blk2 K57.out
          have K5V := Lib.hid (heap_set K57.out 0 (.int .i64 0))
          have K4V : Hid ((w7.setCell ⟨w1.heap.size, 0, none⟩ (.int .i64 0)).heap[w.heap.size]? = some (.cells #[.int .i64 0, .int .i64 0] 52 (0, 0))) := Lib.hid (by rw [Below.heap_setCell _ _ _ _ (by simpa using hne)]; exact K47.out)
          have HDV := Lib.hid (HD7.out.setCell (g := w1.heap.size) (o := 0) hs1 (.int .i64 0))
          have HRV := Lib.hid (hr7.out.set (g := w1.heap.size) (o := 0) (by omega) (.int .i64 0))
          clear K47 K57 HD7 hr7
          obtain ⟨z0, z1, z2, z3⟩ := blk2 (heap_set (heap_set K4V.out 0 (.int .i64 0)) 1 (.int .i64 y))
          obtain ⟨c0, c1, c2, c3⟩ := blk2 K5V.out
          obtain ⟨d0, d1, d2, d3⟩ := blk2 K4V.out
          go_wp2
          refine bodyPost_ret (v := .agg #[.int .i64 0, .int .i64 y]) (by simp [results, Try.results142, go_sem, z0, z1, z2]) rfl ?_
          exact ⟨_, _, (p5 + 1 + 1), rfl, by omega, (HDV.out.setCell (Nat.le_refl _) _).setCell (Nat.le_refl _) _, (HRV.out.set (by omega) _).set (by omega) _⟩
        · clear hr0 hr1
          obtain ⟨e0, e1, e2, e3⟩ := blk2 K57.out
          have K5V := Lib.hid (heap_set K57.out 0 (.int .i64 9))
          have K4V : Hid ((w7.setCell ⟨w1.heap.size, 0, none⟩ (.int .i64 9)).heap[w.heap.size]? = some (.cells #[.int .i64 0, .int .i64 0] 52 (0, 0))) := Lib.hid (by rw [Below.heap_setCell _ _ _ _ (by simpa using hne)]; exact K47.out)
          have HDV := Lib.hid (HD7.out.setCell (g := w1.heap.size) (o := 0) hs1 (.int .i64 9))
          have HRV := Lib.hid (hr7.out.set (g := w1.heap.size) (o := 0) (by omega) (.int .i64 9))
          clear K47 K57 HD7 hr7
          obtain ⟨z0, z1, z2, z3⟩ := blk2 (heap_set (heap_set K4V.out 0 (.int .i64 9)) 1 (.int .i64 y))
          obtain ⟨c0, c1, c2, c3⟩ := blk2 K5V.out
          obtain ⟨d0, d1, d2, d3⟩ := blk2 K4V.out
          go_wp2
          refine bodyPost_ret (v := .agg #[.int .i64 9, .int .i64 y]) (by simp [results, Try.results142, go_sem, z0, z1, z2]) rfl ?_
          exact ⟨_, _, (p5 + 1 + 1), rfl, by omega, (HDV.out.setCell (Nat.le_refl _) _).setCell (Nat.le_refl _) _, (HRV.out.set (by omega) _).set (by omega) _⟩
      · clear hq0 hq1
        obtain ⟨c0, c1, c2, c3⟩ := blk2 K56.out
        obtain ⟨d0, d1, d2, d3⟩ := blk2 K46.out
        go_wp2_with fail
        refine (pick_x rb (p5 + 1) _ _ (hr6.out.stay ((Below.refl _ _).alloc (Nat.le_refl _) _)) (by omega)).mono ?_
        rintro e w7 ⟨r, rfl, hr0, hr1, hd7, hr7, hzz⟩; clear hzz
        have hcell : ∀ (j : Nat) (v : Value), (#[Value.int .i64 (-1), .int .i64 3, .int .i64 1] : Array Value)[j]? = some v → w7.cell? ⟨w6.heap.size, j, none⟩ = some v :=
          fun j v h => hd7.kp _ _ (by show w6.heap.size ≠ rb; omega) (by rw [World.cell?_alloc_mark]; exact h)
        have hc0 := hcell 0 _ rfl
        have hc1 := hcell 1 _ rfl
        have hc2 := hcell 2 _ rfl
        clear hcell
        have K47 := Lib.hid (hd7.blk (blkOld K46.out) (by omega))
        have K57 := Lib.hid (hd7.blk (blkOld K56.out) (by omega))
        have HD7 := Lib.hid ((HD6.out.alloc _).trans hd7)
        clear hd7 c0 c1 c2 c3 d0 d1 d2 d3
        rcases (by omega : r = 0 ∨ r = 1 ∨ r = 2) with rfl | rfl | rfl
        · clear hr0 hr1
          obtain ⟨e0, e1, e2, e3⟩ := blk2 K57.out
          have K5V := Lib.hid (heap_set K57.out 1 (.int .i64 (-1)))
          have K4V : Hid ((w7.setCell ⟨w1.heap.size, 1, none⟩ (.int .i64 (-1))).heap[w.heap.size]? = some (.cells #[.int .i64 0, .int .i64 0] 52 (0, 0))) := Lib.hid (by rw [Below.heap_setCell _ _ _ _ (by simpa using hne)]; exact K47.out)
          have HDV := Lib.hid (HD7.out.setCell (g := w1.heap.size) (o := 1) hs1 (.int .i64 (-1)))
          have HRV := Lib.hid (hr7.out.set (g := w1.heap.size) (o := 1) (by omega) (.int .i64 (-1)))
          clear K47 K57 HD7 hr7
          obtain ⟨z0, z1, z2, z3⟩ := blk2 (heap_set (heap_set K4V.out 0 (.int .i64 3)) 1 (.int .i64 (-1)))
          obtain ⟨c0, c1, c2, c3⟩ := blk2 K5V.out
          obtain ⟨d0, d1, d2, d3⟩ := blk2 K4V.out
          go_wp2
          refine bodyPost_ret (v := .agg #[.int .i64 3, .int .i64 (-1)]) (by simp [results, Try.results142, go_sem, z0, z1, z2]) rfl ?_
          exact ⟨_, _, (p5 + 1 + 1), rfl, by omega, (HDV.out.setCell (Nat.le_refl _) _).setCell (Nat.le_refl _) _, (HRV.out.set (by omega) _).set (by omega) _⟩
        · clear hr0 hr1
          obtain ⟨e0, e1, e2, e3⟩ := blk2 K57.out
          have K5V := Lib.hid (heap_set K57.out 1 (.int .i64 3))
          have K4V : Hid ((w7.setCell ⟨w1.heap.size, 1, none⟩ (.int .i64 3)).heap[w.heap.size]? = some (.cells #[.int .i64 0, .int .i64 0] 52 (0, 0))) := Lib.hid (by rw [Below.heap_setCell _ _ _ _ (by simpa using hne)]; exact K47.out)
          have HDV := Lib.hid (HD7.out.setCell (g := w1.heap.size) (o := 1) hs1 (.int .i64 3))
          have HRV := Lib.hid (hr7.out.set (g := w1.heap.size) (o := 1) (by omega) (.int .i64 3))
          clear K47 K57 HD7 hr7
          obtain ⟨z0, z1, z2, z3⟩ := blk2 (heap_set (heap_set K4V.out 0 (.int .i64 3)) 1 (.int .i64 3))
          obtain ⟨c0, c1, c2, c3⟩ := blk2 K5V.out
          obtain ⟨d0, d1, d2, d3⟩ := blk2 K4V.out
          go_wp2
          refine bodyPost_ret (v := .agg #[.int .i64 3, .int .i64 3]) (by simp [results, Try.results142, go_sem, z0, z1, z2]) rfl ?_
          exact ⟨_, _, (p5 + 1 + 1), rfl, by omega, (HDV.out.setCell (Nat.le_refl _) _).setCell (Nat.le_refl _) _, (HRV.out.set (by omega) _).set (by omega) _⟩
        · clear hr0 hr1
          obtain ⟨e0, e1, e2, e3⟩ := blk2 K57.out
          have K5V := Lib.hid (heap_set K57.out 1 (.int .i64 1))
          have K4V : Hid ((w7.setCell ⟨w1.heap.size, 1, none⟩ (.int .i64 1)).heap[w.heap.size]? = some (.cells #[.int .i64 0, .int .i64 0] 52 (0, 0))) := Lib.hid (by rw [Below.heap_setCell _ _ _ _ (by simpa using hne)]; exact K47.out)
          have HDV := Lib.hid (HD7.out.setCell (g := w1.heap.size) (o := 1) hs1 (.int .i64 1))
          have HRV := Lib.hid (hr7.out.set (g := w1.heap.size) (o := 1) (by omega) (.int .i64 1))
          clear K47 K57 HD7 hr7
          obtain ⟨z0, z1, z2, z3⟩ := blk2 (heap_set (heap_set K4V.out 0 (.int .i64 3)) 1 (.int .i64 1))
          obtain ⟨c0, c1, c2, c3⟩ := blk2 K5V.out
          obtain ⟨d0, d1, d2, d3⟩ := blk2 K4V.out
          go_wp2
          refine bodyPost_ret (v := .agg #[.int .i64 3, .int .i64 1]) (by simp [results, Try.results142, go_sem, z0, z1, z2]) rfl ?_
          exact ⟨_, _, (p5 + 1 + 1), rfl, by omega, (HDV.out.setCell (Nat.le_refl _) _).setCell (Nat.le_refl _) _, (HRV.out.set (by omega) _).set (by omega) _⟩
  · have hk3d : ((1 + k) == 3) = false := by simp; omega
    clear hk3
    have hkI : 1 + k ≤ 8 := by omega
    obtain ⟨W2, hW2⟩ : ∃ x, x = w1.alloc (.cells #[.int .i64 (1 + k), .int .i64 0] 52) := ⟨_, rfl⟩
    have hb2 : Below w1.heap.size w1 W2 := by rw [hW2]; exact (Below.refl _ _).alloc (Nat.le_refl _) _
    have K42 := Lib.hid (blkBel hb2 K41.out)
    have K52 : Hid (W2.heap[w1.heap.size]? = some (.cells #[.int .i64 (1 + k), .int .i64 0] 52 (0, 0))) := by rw [hW2]; exact blkNew _ _ rfl
    have HR2 := Lib.hid (hr1.out.stay hb2)
    have HD2 := Lib.hid (HD1.out.trans (Dr.below hb2))
    have HW2 := Lib.hid hW2
    clear hW2 hb2 K41 HD1 hr1
    obtain ⟨a0, a1, a2, a3⟩ := blk2 K52.out
    rw [HW2.out] at a0 a1 a2 a3 K42 K52 HD2 HR2
    clear HW2 W2
    obtain ⟨c0, c1, c2, c3⟩ := blk2 K52.out
    obtain ⟨d0, d1, d2, d3⟩ := blk2 K42.out
    go_wp2_with fail
    refine (odd_x rb (p + 1) _ _ HR2.out (by omega) hn1).mono ?_
    rintro e w5 ⟨b, p5, rfl, hp5, hd5, hr5, hzz⟩; clear hzz
    have K45 := Lib.hid (hd5.blk K42.out (by omega))
    have K55 := Lib.hid (hd5.blk K52.out (by omega))
    have HD5 := Lib.hid (HD2.out.trans hd5)
    clear c0 c1 c2 c3 d0 d1 d2 d3 hd5
    cases b
    · skip
      obtain ⟨z0, z1, z2, z3⟩ := blk2 (heap_set (heap_set K45.out 0 (.int .i64 (1 + k))) 1 (.int .i64 0))
      obtain ⟨c0, c1, c2, c3⟩ := blk2 K55.out
      obtain ⟨d0, d1, d2, d3⟩ := blk2 K45.out
      go_wp2
      refine bodyPost_ret (v := .agg #[.int .i64 (1 + k), .int .i64 0]) (by simp [results, Try.results142, go_sem, z0, z1, z2]) rfl ?_
      exact ⟨_, _, p5, rfl, by omega, (HD5.out.setCell (Nat.le_refl _) _).setCell (Nat.le_refl _) _, (hr5.out.set (by omega) _).set (by omega) _⟩
    · skip
      obtain ⟨c0, c1, c2, c3⟩ := blk2 K55.out
      obtain ⟨d0, d1, d2, d3⟩ := blk2 K45.out
      go_wp2_with fail
      refine (pick_x rb p5 _ _ hr5.out (by omega)).mono ?_
      rintro e w6 ⟨q, rfl, hq0, hq1, hd6, hr6, hzz⟩; clear hzz
      have K46 := Lib.hid (hd6.blk K45.out (by omega))
      have K56 := Lib.hid (hd6.blk K55.out (by omega))
      have HD6 := Lib.hid (HD5.out.trans hd6)
      have hlt6 := hr6.out.lt
      have hs6 := HD6.out.size
      have hs16 : w1.heap.size < w6.heap.size := (Array.getElem?_eq_some_iff.1 K56.out).1
      clear c0 c1 c2 c3 d0 d1 d2 d3 hd6
      rcases (by omega : q = 0 ∨ q = 1) with rfl | rfl
      · clear hq0 hq1
        obtain ⟨c0, c1, c2, c3⟩ := blk2 K56.out
        obtain ⟨d0, d1, d2, d3⟩ := blk2 K46.out
        go_wp2_with fail
        refine (pick_x rb (p5 + 1) _ _ (hr6.out.stay ((Below.refl _ _).alloc (Nat.le_refl _) _)) (by omega)).mono ?_
        rintro e w7 ⟨r, rfl, hr0, hr1, hd7, hr7, hzz⟩; clear hzz
        have hcell : ∀ (j : Nat) (v : Value), (#[Value.int .i64 0, .int .i64 9] : Array Value)[j]? = some v → w7.cell? ⟨w6.heap.size, j, none⟩ = some v :=
          fun j v h => hd7.kp _ _ (by show w6.heap.size ≠ rb; omega) (by rw [World.cell?_alloc_mark]; exact h)
        have hc0 := hcell 0 _ rfl
        have hc1 := hcell 1 _ rfl
        clear hcell
        have K47 := Lib.hid (hd7.blk (blkOld K46.out) (by omega))
        have K57 := Lib.hid (hd7.blk (blkOld K56.out) (by omega))
        have HD7 := Lib.hid ((HD6.out.alloc _).trans hd7)
        clear hd7 c0 c1 c2 c3 d0 d1 d2 d3
        rcases (by omega : r = 0 ∨ r = 1) with rfl | rfl
        · clear hr0 hr1
          obtain ⟨e0, e1, e2, e3⟩ := blk2 K57.out
          have K5V := Lib.hid (heap_set K57.out 0 (.int .i64 0))
          have K4V : Hid ((w7.setCell ⟨w1.heap.size, 0, none⟩ (.int .i64 0)).heap[w.heap.size]? = some (.cells #[.int .i64 0, .int .i64 0] 52 (0, 0))) := Lib.hid (by rw [Below.heap_setCell _ _ _ _ (by simpa using hne)]; exact K47.out)
          have HDV := Lib.hid (HD7.out.setCell (g := w1.heap.size) (o := 0) hs1 (.int .i64 0))
          have HRV := Lib.hid (hr7.out.set (g := w1.heap.size) (o := 0) (by omega) (.int .i64 0))
          clear K47 K57 HD7 hr7
          obtain ⟨z0, z1, z2, z3⟩ := blk2 (heap_set (heap_set K4V.out 0 (.int .i64 0)) 1 (.int .i64 0))
          obtain ⟨c0, c1, c2, c3⟩ := blk2 K5V.out
          obtain ⟨d0, d1, d2, d3⟩ := blk2 K4V.out
          go_wp2
          refine bodyPost_ret (v := .agg #[.int .i64 0, .int .i64 0]) (by simp [results, Try.results142, go_sem, z0, z1, z2]) rfl ?_
          exact ⟨_, _, (p5 + 1 + 1), rfl, by omega, (HDV.out.setCell (Nat.le_refl _) _).setCell (Nat.le_refl _) _, (HRV.out.set (by omega) _).set (by omega) _⟩
        · clear hr0 hr1
          obtain ⟨e0, e1, e2, e3⟩ := blk2 K57.out
          have K5V := Lib.hid (heap_set K57.out 0 (.int .i64 9))
          have K4V : Hid ((w7.setCell ⟨w1.heap.size, 0, none⟩ (.int .i64 9)).heap[w.heap.size]? = some (.cells #[.int .i64 0, .int .i64 0] 52 (0, 0))) := Lib.hid (by rw [Below.heap_setCell _ _ _ _ (by simpa using hne)]; exact K47.out)
          have HDV := Lib.hid (HD7.out.setCell (g := w1.heap.size) (o := 0) hs1 (.int .i64 9))
          have HRV := Lib.hid (hr7.out.set (g := w1.heap.size) (o := 0) (by omega) (.int .i64 9))
          clear K47 K57 HD7 hr7
          obtain ⟨z0, z1, z2, z3⟩ := blk2 (heap_set (heap_set K4V.out 0 (.int .i64 9)) 1 (.int .i64 0))
          obtain ⟨c0, c1, c2, c3⟩ := blk2 K5V.out
          obtain ⟨d0, d1, d2, d3⟩ := blk2 K4V.out
          go_wp2
          refine bodyPost_ret (v := .agg #[.int .i64 9, .int .i64 0]) (by simp [results, Try.results142, go_sem, z0, z1, z2]) rfl ?_
          exact ⟨_, _, (p5 + 1 + 1), rfl, by omega, (HDV.out.setCell (Nat.le_refl _) _).setCell (Nat.le_refl _) _, (HRV.out.set (by omega) _).set (by omega) _⟩
      · clear hq0 hq1
        obtain ⟨c0, c1, c2, c3⟩ := blk2 K56.out
        obtain ⟨d0, d1, d2, d3⟩ := blk2 K46.out
        go_wp2_with fail
        refine (pick_x rb (p5 + 1) _ _ (hr6.out.stay ((Below.refl _ _).alloc (Nat.le_refl _) _)) (by omega)).mono ?_
        rintro e w7 ⟨r, rfl, hr0, hr1, hd7, hr7, hzz⟩; clear hzz
        have hcell : ∀ (j : Nat) (v : Value), (#[Value.int .i64 (-1), .int .i64 3, .int .i64 1] : Array Value)[j]? = some v → w7.cell? ⟨w6.heap.size, j, none⟩ = some v :=
          fun j v h => hd7.kp _ _ (by show w6.heap.size ≠ rb; omega) (by rw [World.cell?_alloc_mark]; exact h)
        have hc0 := hcell 0 _ rfl
        have hc1 := hcell 1 _ rfl
        have hc2 := hcell 2 _ rfl
        clear hcell
        have K47 := Lib.hid (hd7.blk (blkOld K46.out) (by omega))
        have K57 := Lib.hid (hd7.blk (blkOld K56.out) (by omega))
        have HD7 := Lib.hid ((HD6.out.alloc _).trans hd7)
        clear hd7 c0 c1 c2 c3 d0 d1 d2 d3
        rcases (by omega : r = 0 ∨ r = 1 ∨ r = 2) with rfl | rfl | rfl
        · clear hr0 hr1
          obtain ⟨e0, e1, e2, e3⟩ := blk2 K57.out
          have K5V := Lib.hid (heap_set K57.out 1 (.int .i64 (-1)))
          have K4V : Hid ((w7.setCell ⟨w1.heap.size, 1, none⟩ (.int .i64 (-1))).heap[w.heap.size]? = some (.cells #[.int .i64 0, .int .i64 0] 52 (0, 0))) := Lib.hid (by rw [Below.heap_setCell _ _ _ _ (by simpa using hne)]; exact K47.out)
          have HDV := Lib.hid (HD7.out.setCell (g := w1.heap.size) (o := 1) hs1 (.int .i64 (-1)))
          have HRV := Lib.hid (hr7.out.set (g := w1.heap.size) (o := 1) (by omega) (.int .i64 (-1)))
          clear K47 K57 HD7 hr7
          obtain ⟨z0, z1, z2, z3⟩ := blk2 (heap_set (heap_set K4V.out 0 (.int .i64 (1 + k))) 1 (.int .i64 (-1)))
          obtain ⟨c0, c1, c2, c3⟩ := blk2 K5V.out
          obtain ⟨d0, d1, d2, d3⟩ := blk2 K4V.out
          go_wp2
          refine bodyPost_ret (v := .agg #[.int .i64 (1 + k), .int .i64 (-1)]) (by simp [results, Try.results142, go_sem, z0, z1, z2]) rfl ?_
          exact ⟨_, _, (p5 + 1 + 1), rfl, by omega, (HDV.out.setCell (Nat.le_refl _) _).setCell (Nat.le_refl _) _, (HRV.out.set (by omega) _).set (by omega) _⟩
        · clear hr0 hr1
          obtain ⟨e0, e1, e2, e3⟩ := blk2 K57.out
          have K5V := Lib.hid (heap_set K57.out 1 (.int .i64 3))
          have K4V : Hid ((w7.setCell ⟨w1.heap.size, 1, none⟩ (.int .i64 3)).heap[w.heap.size]? = some (.cells #[.int .i64 0, .int .i64 0] 52 (0, 0))) := Lib.hid (by rw [Below.heap_setCell _ _ _ _ (by simpa using hne)]; exact K47.out)
          have HDV := Lib.hid (HD7.out.setCell (g := w1.heap.size) (o := 1) hs1 (.int .i64 3))
          have HRV := Lib.hid (hr7.out.set (g := w1.heap.size) (o := 1) (by omega) (.int .i64 3))
          clear K47 K57 HD7 hr7
          obtain ⟨z0, z1, z2, z3⟩ := blk2 (heap_set (heap_set K4V.out 0 (.int .i64 (1 + k))) 1 (.int .i64 3))
          obtain ⟨c0, c1, c2, c3⟩ := blk2 K5V.out
          obtain ⟨d0, d1, d2, d3⟩ := blk2 K4V.out
          go_wp2
          refine bodyPost_ret (v := .agg #[.int .i64 (1 + k), .int .i64 3]) (by simp [results, Try.results142, go_sem, z0, z1, z2]) rfl ?_
          exact ⟨_, _, (p5 + 1 + 1), rfl, by omega, (HDV.out.setCell (Nat.le_refl _) _).setCell (Nat.le_refl _) _, (HRV.out.set (by omega) _).set (by omega) _⟩
        · clear hr0 hr1
          obtain ⟨e0, e1, e2, e3⟩ := blk2 K57.out
          have K5V := Lib.hid (heap_set K57.out 1 (.int .i64 1))
          have K4V : Hid ((w7.setCell ⟨w1.heap.size, 1, none⟩ (.int .i64 1)).heap[w.heap.size]? = some (.cells #[.int .i64 0, .int .i64 0] 52 (0, 0))) := Lib.hid (by rw [Below.heap_setCell _ _ _ _ (by simpa using hne)]; exact K47.out)
          have HDV := Lib.hid (HD7.out.setCell (g := w1.heap.size) (o := 1) hs1 (.int .i64 1))
          have HRV := Lib.hid (hr7.out.set (g := w1.heap.size) (o := 1) (by omega) (.int .i64 1))
          clear K47 K57 HD7 hr7
          obtain ⟨z0, z1, z2, z3⟩ := blk2 (heap_set (heap_set K4V.out 0 (.int .i64 (1 + k))) 1 (.int .i64 1))
          obtain ⟨c0, c1, c2, c3⟩ := blk2 K5V.out
          obtain ⟨d0, d1, d2, d3⟩ := blk2 K4V.out
          go_wp2
          refine bodyPost_ret (v := .agg #[.int .i64 (1 + k), .int .i64 1]) (by simp [results, Try.results142, go_sem, z0, z1, z2]) rfl ?_
          exact ⟨_, _, (p5 + 1 + 1), rfl, by omega, (HDV.out.setCell (Nat.le_refl _) _).setCell (Nat.le_refl _) _, (HRV.out.set (by omega) _).set (by omega) _⟩
/-- A list of parts was drawn. -/
def DxE (rb p c m : Nat) (w : World) (e : Ending) (w' : World) : Prop := ∃ (v : Value) (xs : List (Int × Int)) (p' : Nat), e = .returned v ∧ xs.length ≤ m ∧ p' ≤ p + c ∧ Dr rb w w' ∧ Hid (Rdx w' rb p') ∧ Hid (Pairs (w.heap.size ≤ ·) w' v xs)
theorem own2Tail {w : World} {base : Nat} {e : TypeId} {v : Value} {x : Int × Int} {xs : List (Int × Int)} (h : Own2 w base e v (x :: xs)) :
    ∃ g cap, v = .slice (some ⟨g, 0, none⟩) (xs.length + 1) (cap + 1) ∧ xs.length ≤ cap ∧ cap + 1 ≤ 9223372036854775807 ∧ (cap = 0 → Pairs (base ≤ ·) w (.slice (some ⟨g, 0, none⟩) 0 0) xs) ∧
      Pairs (base ≤ ·) w (.slice (some ⟨g, 2, none⟩) xs.length cap) xs := by
  have hp := h.rd
  obtain ⟨hl, hh⟩ := h
  rcases hh with ⟨_, hn⟩ | ⟨g, cap, cur, rfl, hb, hg, hnc, hcm, hcs, ht⟩
  · simp at hn
  · simp only [List.length_cons] at hnc
    obtain ⟨c, rfl⟩ : ∃ c, cap = c + 1 := ⟨cap - 1, by omega⟩
    refine ⟨g, c, rfl, by omega, by unfold maxLen at hcm; omega, fun h0 => ?_, ?_⟩
    · have : xs = [] := List.eq_nil_of_length_eq_zero (by omega)
      subst this
      exact ⟨_, 0, rfl, ⟨Nat.zero_le _, Nat.le_refl _, fun h => by cases h⟩, fun i hi => absurd hi (by simp [cells2])⟩
    · obtain ⟨a', cap', e, hn, hc⟩ := hp
      cases e
      simp only [List.length_cons] at hn
      refine ⟨_, c, rfl, ⟨by omega, by omega, fun h => by cases h⟩, fun i hi => ?_⟩
      obtain ⟨b, off, e, hs, hcell⟩ := hc (i + 2) (by rw [length_cells2] at hi ⊢; simp only [List.length_cons]; omega)
      cases e
      refine ⟨g, 2, rfl, hs, ?_⟩
      rw [show 2 + i = 0 + (i + 2) by omega, hcell]
      rfl
/-- How many elements a slice has. -/
def lenP : Value → Nat
  | .slice _ n _ => n
  | _ => 0
set_option maxHeartbeats 2000000 in
theorem l20Expr_x (rb p : Nat) (n : Int) (w : World) (h : Rdx w rb p) (hp : p ≤ 600000) (hn1 : -9223372036854775808 < n) :
    Calls Try.prog 66 #[.pointer (some ⟨rb, 0, none⟩), .int .i64 n] w (DxE rb p 100 61 w) := by
  have hlt0 := h.lt
  have H := Lib.hid h; clear h
  go_enter Try.func66, Try.ntmps66
  go_wp2_with fail
  refine (pick_x rb p _ w H.out (by omega)).mono ?_
  rintro e w1 ⟨k, rfl, hk0, hk1, hd1, hr1, hzz⟩; clear hzz
  have hk2 : k ≤ 2 := by omega
  clear hk1 H
  have hmk : Calls Try.prog 139 #[.pointer (some ⟨rb, 0, none⟩), .int .i64 (1 + k), .bool false] w1 (DrP rb (p + 1) 60 15 w1) := by
    rcases (by omega : k = 0 ∨ k = 1 ∨ k = 2) with rfl | rfl | rfl
    · exact l20Make_c 1 (by omega) rb (p + 1) false w1 hr1.out (by omega)
    · exact l20Make_c 2 (by omega) rb (p + 1) false w1 hr1.out (by omega)
    · exact l20Make_c 3 (by omega) rb (p + 1) false w1 hr1.out (by omega)
  have Hmk := Lib.hid hmk
  have hs1 := hd1.size
  have HD1 := Lib.hid hd1
  clear hmk hd1 hr1
  go_wp2_with fail
  refine Hmk.out.mono ?_
  rintro e w2 ⟨v2, xs, p2, rfl, ⟨hx1, hx15⟩, hp2, hd2, hr2, ho2'⟩
  have ho2 : Hid (Own2 w2 w.heap.size 52 v2 xs) := Lib.hid (ownBase ho2'.out hs1)
  have HD2 := Lib.hid (HD1.out.trans hd2)
  clear hd2 ho2' Hmk HD1
  obtain ⟨a2, c2, rfl, _⟩ := ho2.out.shape
  go_wp2_with fail
  refine (odd_x rb p2 _ _ hr2.out (by omega) hn1).mono ?_
  rintro e w3 ⟨b, p3, rfl, hp3, hd3, hr3, hzz⟩; clear hzz
  have ho3 : Hid (Own2 w3 w.heap.size 52 (.slice a2 xs.length c2) xs) := Lib.hid (hd3.own ho2.out hlt0)
  have HD3 := Lib.hid (HD2.out.trans hd3)
  clear hd3 ho2 HD2 hr2
  cases b
  · go_wp2
    go_ret
    exact ⟨_, xs, p3, rfl, by omega, by omega, HD3.out, hr3, Lib.hid ho3.out.rd⟩
  · go_wp2_with fail
    refine (pick_x rb p3 _ _ hr3.out (by omega)).mono ?_
    rintro e w4 ⟨q, rfl, hq0, hq1, hd4, hr4, hzz⟩; clear hzz
    have ho4 : Hid (Own2 w4 w.heap.size 52 (.slice a2 xs.length c2) xs) := Lib.hid (hd4.own ho3.out hlt0)
    have HD4 := Lib.hid (HD3.out.trans hd4)
    have hs4 := HD4.out.size
    clear hd4 ho3 HD3 hr3
    rcases (by omega : q = 0 ∨ q = 1 ∨ q = 2 ∨ q = 3) with rfl | rfl | rfl | rfl
    · clear hq0 hq1
      obtain ⟨x, xt, rfl⟩ : ∃ x t, xs = x :: t := by
        cases xs with
        | nil => simp at hx1
        | cons x t => exact ⟨x, t, rfl⟩
      obtain ⟨g, cap, e, hnc, hcm, hz0, hz1⟩ := own2Tail ho4.out
      injection e with e1 e2 e3
      subst e1 e3
      have Hz0 := Lib.hid hz0
      have Hz1 := Lib.hid hz1
      clear hz0 hz1 e2 ho4
      simp only [List.length_cons] at hx1 hx15 ⊢
      by_cases hc0 : cap = 0
      · subst hc0
        have hl0 : xt.length = 0 := by omega
        have Hz := Lib.hid (Hz0.out rfl)
        rw [hl0]
        go_wp2
        go_ret
        exact ⟨_, xt, p3 + 1, rfl, by omega, by omega, HD4.out, hr4, Hz⟩
      · have hcp : 0 < cap := by omega
        go_wp2
        go_ret
        exact ⟨_, xt, p3 + 1, rfl, by omega, by omega, HD4.out, hr4, Hz1⟩
    · clear hq0 hq1
      go_wp2_with fail
      refine (l20Part_x rb (p3 + 1) 1 _ hr4.out (by omega) (by omega)).mono ?_
      rintro e w5 ⟨x, y, p5, rfl, hp5, hd5, hr5⟩
      have ho5 : Hid (Own2 w5 w.heap.size 52 (.slice a2 xs.length c2) xs) := Lib.hid (hd5.own ho4.out hlt0)
      have HD5 := Lib.hid (HD4.out.trans hd5)
      have hs5 := HD5.out.size
      clear hd5 ho4 HD4 hr4
      go_wp2_with (at_builtin; refine app2 elPart (by decide) rfl (.tmp 29) (.tmp 32) rfl w.heap.size _ xs x y w5 rfl rfl rfl ho5.out (by omega) hs5 ?_; intro v8 w8 h8 hg8)
      go_ret
      exact ⟨_, _, p5, rfl, by rw [List.length_append, List.length_singleton]; omega, by omega, HD5.out.grown hg8 (fun b hb => (World.ownsRow.lt ho5.out b hb).1), Lib.hid (hr5.out.grow hg8 fun b hb => by have := (World.ownsRow.lt ho5.out b hb).1; omega), Lib.hid h8.out.rd⟩
    · clear hq0 hq1
      go_wp2_with (at_builtin; refine app2 elPart (by decide) rfl (.tmp 36) (.tmp 38) rfl w.heap.size _ xs 2 0 w4 rfl rfl rfl ho4.out (by omega) hs4 ?_; intro v8 w8 h8 hg8)
      go_ret
      exact ⟨_, _, p3 + 1, rfl, by rw [List.length_append, List.length_singleton]; omega, by omega, HD4.out.grown hg8 (fun b hb => (World.ownsRow.lt ho4.out b hb).1), Lib.hid (hr4.out.grow hg8 fun b hb => by have := (World.ownsRow.lt ho4.out b hb).1; omega), Lib.hid h8.out.rd⟩
    · clear hq0 hq1
      go_wp2_with fail
      go_loopw [5] (fun v wr => ∃ (ys : List (Int × Int)), ys.length ≤ 61 ∧ Hid (Dr rb w wr) ∧ Hid (Rdx wr rb (p3 + 1)) ∧ Hid (Own2 wr w.heap.size 52 v ys)) (fun v _ => 62 - lenP v)
      case atStart => exact ⟨xs, by omega, HD4, hr4, ho4⟩
      case round =>
        obtain ⟨ys, hy, hd, hr, ho⟩ := hrel
        obtain ⟨a, c, rfl, _⟩ := ho.out.shape
        have hs := hd.out.size
        clear hr4 ho4 HD4 hs4
        by_cases hlt : ys.length ≤ 60
        · have hltI : (ys.length : Int) ≤ 60 := by omega
          go_wp2_with (at_builtin; refine app2 elPart (by decide) rfl (.tmp 19) (.tmp 21) rfl w.heap.size _ ys 8 0 wr rfl rfl rfl ho.out (by omega) hs ?_; intro v8 w8 h8 hg8)
          obtain ⟨a8, c8, rfl, _⟩ := h8.out.shape
          go_roundw
          case rel => exact ⟨_, by rw [List.length_append, List.length_singleton]; omega, Lib.hid (hd.out.grown hg8 (fun b hb => (World.ownsRow.lt ho.out b hb).1)), Lib.hid (hr.out.grow hg8 fun b hb => by have := (World.ownsRow.lt ho.out b hb).1; omega), h8⟩
          case measure => simp [lenP]; omega
        · have hltI : (60 : Int) < (ys.length : Int) := by omega
          go_wp2
          go_ret
          exact ⟨_, ys, p3 + 1, rfl, by omega, by omega, hd.out, hr, Lib.hid ho.out.rd⟩
/-- The call answers a list of parts to be read. -/
def RDp (w : World) (e : Ending) (w' : World) : Prop := ∃ (v : Value) (xs : List (Int × Int)), e = .returned v ∧ xs.length ≤ 61 ∧ Below w.heap.size w w' ∧ Hid (Pairs (w.heap.size ≤ ·) w' v xs)
end Go.Proofs.Ytnjddneelkdmoaa
