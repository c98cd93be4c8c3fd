/- The smallest automaton: the program's. -/
import Derived.Test.YtofamhgkiipagaaXpl
import Derived.Test.YtofamhgkiipagaaSst
import Derived.Deep.RegionHeld3
namespace Go.Proofs.Ytofamhgkiipagaa
open Go.RowKit
set_option maxRecDepth 100000
variable {S T : Nat → Prop}
/-- An automaton comes back, in memory of its own. -/
def RD (D : DfaD) (w : World) (e : Ending) (w' : World) : Prop :=
  ∃ v1 v2, e = .returned (.agg #[v1, v2]) ∧ Below w.heap.size w w' ∧ Hid (DfaW (fun b => w.heap.size ≤ b ∧ b < w'.heap.size) w' v1 v2 D)
set_option maxHeartbeats 400000 in
theorem minNext_c (vn ve : Value) (D : DfaD) (s c B1 B3 g : Nat) (w : World) (h : DfaR S w vn ve D) (hD : okD D) (hs : s < D.1.length) (hc : c < 3)
    (K1 : w.heap[B1]? = some (.cells #[vn, ve] 42 (0, 0))) (K3 : w.heap[B3]? = some (.cells #[.slice (some ⟨g, 0, none⟩) D.1.length D.1.length] 23 (0, 0))) (hr : RowI w g (fL D (cls D))) :
    Calls Try.prog 114 (#[.int .i64 s, .int .i64 c] ++ #[.pointer (some ⟨B3, 0, none⟩), .pointer (some ⟨B1, 0, none⟩)]) w (RIn w (· = (cn D s c : Int))) := by
  obtain ⟨c0, c1, _, _⟩ := blk2 K1
  have c3 : w.cell? ⟨B3, 0, none⟩ = some (.slice (some ⟨g, 0, none⟩) D.1.length D.1.length) := by rw [cell_of_row w B3 0 _ _ _ K3]; rfl
  obtain ⟨a, ca, b, d, rfl, rfl, hn, hm⟩ := h.shapes
  obtain ⟨bn, on, br, or_, cr, e1, hs1, hs2, hs3⟩ := h.step hD hs hc
  cases e1
  have hcc := hr.cell (i := dn D s c) (by rw [fL_len]; exact hs3)
  rw [fL_get D (cls D) hs3] at hcc
  have hsI : (s : Int) < (D.1.length : Int) := by omega
  have hcI : (c : Int) < 3 := by omega
  have huI : ((dn D s c : Nat) : Int) < (D.1.length : Int) := by omega
  have Hcn : Hid (cn D s c = cls D (dn D s c)) := rfl
  generalize cls D (dn D s c) = y at *
  generalize dn D s c = u at *
  clear h hD hr K1 K3
  go_enter Try.func114, Try.ntmps114
  go_wp2_with fail
  go_quiet (fail)
  go_wp2
  go_ret
  exact RIn.mk (belReflN _ _ _) (by rw [Hcn.out])
theorem body_minNext : HasBody 114 := by
  intro args w
  kernel_rfl
theorem minEnds_c (vn ve : Value) (D : DfaD) (s B1 : Nat) (w : World) (h : DfaR S w vn ve D) (hD : okD D) (hs : s < D.1.length) (K1 : w.heap[B1]? = some (.cells #[vn, ve] 42 (0, 0))) :
    Calls Try.prog 115 (#[.int .i64 s] ++ #[.pointer (some ⟨B1, 0, none⟩)]) w (RB w (de D s = true)) := by
  obtain ⟨c0, c1, _, _⟩ := blk2 K1
  obtain ⟨a, ca, b, d, rfl, rfl, hn, hm⟩ := h.shapes
  obtain ⟨be, oe, rfl, he⟩ := h.mark hD hs
  have hsI : (s : Int) < (D.2.length : Int) := by rw [hD.2.1]; omega
  have hsn : s < D.2.length := by rw [hD.2.1]; omega
  generalize de D s = x at *
  clear h hD K1
  go_enter Try.func115, Try.ntmps115
  go_wp2
  go_ret
  exact RB.mk Iff.rfl
theorem body_minEnds : HasBody 115 := by
  intro args w
  kernel_rfl
set_option maxHeartbeats 4000000 in
theorem minimize_c (vn ve : Value) (D : DfaD) (w : World) (h : DfaR S w vn ve D) (hD : okD D) : Calls Try.prog 82 #[.agg #[vn, ve]] w (RD (canon (lgD D)) w) := by
  obtain ⟨a, ca, b, d, rfl, rfl, hn, hm⟩ := h.shapes
  have HD := Lib.hid hD
  have hn40 : D.1.length ≤ 40 := hD.1.2
  have hn1 : 1 ≤ D.1.length := hD.1.1
  clear hD
  obtain ⟨W, hW⟩ : ∃ W, W = (w.alloc (.cells #[.slice a D.1.length ca, .slice b D.2.length d] 42)).alloc (.cells #[.slice none 0 0, .slice none 0 0] 42) := ⟨_, rfl⟩
  have Hb0 : Hid (Below w.heap.size w W) := by rw [hW]; exact ((Below.refl _ _).alloc (Nat.le_refl _) _).alloc (by simp) _
  have K0 : Hid (W.heap[w.heap.size]? = some (.cells #[.slice a D.1.length ca, .slice b D.2.length d] 42 (0, 0))) := by rw [hW]; exact blkOld (blkNew _ _ rfl)
  have K1 : Hid (W.heap[w.heap.size + 1]? = some (.cells #[.slice none 0 0, .slice none 0 0] 42 (0, 0))) := by rw [hW]; exact blkNew _ _ (by simp)
  have Hz : Hid (W.heap.size = w.heap.size + 2) := by rw [hW]; simp [Hid]
  have H := Lib.hid (h.stay (kpB Hb0.out)); clear h
  have HW := Lib.hid hW; clear hW
  obtain ⟨c0, c1, _, _⟩ := blk2 K0.out
  go_enter Try.func82, Try.ntmps82
  rw [HW.out] at c0 c1
  go_wp2_with fail
  rw [← HW.out]
  refine (sameStates_c _ _ D W H.out HD.out).mono ?_
  rintro e w1 ⟨v, rfl, hb1, hv⟩
  obtain ⟨g, rfl, hg, hr⟩ := hv.out
  clear c0 c1
  go_wp2_with fail
  obtain ⟨w2, hw2⟩ : ∃ w2, w2 = w1.alloc (.cells #[.slice (some ⟨g, 0, none⟩) D.1.length D.1.length] 23) := ⟨_, rfl⟩
  rw [← hw2]
  have hb2 : Below w1.heap.size w1 w2 := by rw [hw2]; exact (Below.refl _ _).alloc (Nat.le_refl _) _
  have K3 : w2.heap[w1.heap.size]? = some (.cells #[.slice (some ⟨g, 0, none⟩) D.1.length D.1.length] 23 (0, 0)) := by rw [hw2]; exact blkNew _ _ rfl
  have hbW : Below W.heap.size W w2 := hb1.trans (hb2.mono hb1.size)
  have K0' := blkBel hbW K0.out
  have K1' := blkBel hbW K1.out
  have hr' := hr.stay hb2
  have H' := H.out.stay (kpB hbW)
  obtain ⟨B3, hB3⟩ : ∃ B3, B3 = w1.heap.size := ⟨_, rfl⟩
  rw [← hB3] at K3 ⊢
  have h32 : B3 < w2.heap.size := (Array.getElem?_eq_some_iff.1 K3).1
  have HCall : Hid (∀ w', Below w2.heap.size w2 w' → Calls Try.prog 113 #[.int .i64 0, .int .i64 D.1.length, .func (.func 114) #[] #[.pointer (some ⟨B3, 0, none⟩), .pointer (some ⟨w.heap.size, 0, none⟩)], .func (.func 115) #[] #[.pointer (some ⟨w.heap.size, 0, none⟩)]] w'
      (XP (fun s : Nat => .int .i64 s) (fun s : Nat => [.int .i64 s]) 3 1 (cn D) (de D) 0 D.1.length w')) := fun w' hb' =>
    exploredInt_c (P := fun s => s < D.1.length) (cn D) (de D) 0 D.1.length _ _ _ _ w' hn1 (fun s hs c hc => cn_lt D HD.out hs hc) (fun s hs => by omega) ⟨hn1, by omega⟩ body_minNext body_minEnds
      (fun s c w3 hs hc hb3 => minNext_c _ _ D s c _ _ g w3 ((H'.stay (kpB hb')).stay (kpB hb3)) HD.out hs hc (blkBel hb3 (blkBel hb' K0')) (blkBel hb3 (blkBel hb' K3)) ((hr'.stay hb').stay hb3))
      (fun s w3 hs hb3 => minEnds_c _ _ D s _ w3 ((H'.stay (kpB hb')).stay (kpB hb3)) HD.out hs (blkBel hb3 (blkBel hb' K0')))
  have HS : Hid (∀ w', Below w2.heap.size w2 w' → w'.cell? ⟨B3, 0, none⟩ = some (.slice (some ⟨g, 0, none⟩) D.1.length D.1.length) ∧ w'.cell? ⟨g, 0, none⟩ = some (.int .i64 0) ∧ w'.cell? ⟨w.heap.size, 0, none⟩ = some (.slice a D.1.length ca)) := fun w' hb' => by
    refine ⟨by rw [cell_of_row w' B3 0 _ _ _ (blkBel hb' K3)]; rfl, ?_, (blk2 (blkBel hb' K0')).1⟩
    have := (hr'.stay hb').cell (i := 0) (by rw [fL_len]; omega)
    rw [fL_get D (cls D) (by omega), cls_zero] at this
    exact this
  have bD : Below w2.heap.size w2 w2.drew := (Below.refl _ _).drew
  have bA : Below w2.heap.size w2 (w2.alloc (.cells #[.slice none 0 0, .slice none 0 0] 42)).drew := ((Below.refl _ _).alloc (Nat.le_refl _) _).drew
  have kA : (w2.alloc (.cells #[.slice none 0 0, .slice none 0 0] 42)).drew.heap[w2.heap.size]? = some (.cells #[.slice none 0 0, .slice none 0 0] 42 (0, 0)) := blkNew _ _ rfl
  have hover : ∀ k, D.1.length < (rnd (cn D) 0 k).length → False := fun k hk => by
    have := rnd_len_le (nx := cn D) (s0 := 0) (n := D.1.length) (by omega) (fun s hs => ⟨cn_lt D HD.out hs (by omega), cn_lt D HD.out hs (by omega), cn_lt D HD.out hs (by omega)⟩) k
    omega
  have Hov := Lib.hid hover
  clear hover
  have HbT := Lib.hid (Hb0.out.trans (hbW.mono Hb0.out.size))
  have hnI : (0 : Int) < (D.1.length : Int) := by omega
  have hn0 : 0 < D.1.length := by omega
  obtain ⟨C, hC⟩ : ∃ C, C = canon (lgD D) := ⟨_, rfl⟩
  rw [← hC]
  have HC := Lib.hid hC
  have K1' := Lib.hid K1'
  clear hC hr hr' H' K0' K3 hb2 hw2 hbW hb1 hg hB3
  go_region_held3 (fun w' => w'.cell? ⟨B3, 0, none⟩ = some (.slice (some ⟨g, 0, none⟩) D.1.length D.1.length) ∧ w'.cell? ⟨g, 0, none⟩ = some (.int .i64 0) ∧ w'.cell? ⟨w.heap.size, 0, none⟩ = some (.slice a D.1.length ca))
    (first | (exact HS.out _ bD) | (exact HS.out _ bA) | (exact HS.out _ (bD.trans (hb4.mono bD.size))) | (exact HS.out _ (bA.trans (hb4.mono bA.size))) | (exact HS.out _ ((bD.trans (hb4.mono bD.size)).alloc (Nat.le_trans bD.size hb4.size) _)) | (exact HS.out _ (((bA.trans (hb4.mono bA.size)).setCell (p := ⟨w2.heap.size, 0, none⟩) (Nat.le_refl _) _).setCell (p := ⟨w2.heap.size, 1, none⟩) (Nat.le_refl _) _)))
    (first | (go_at_call 113
              refine (HCall.out _ bA).mono ?_
              rintro e w4 ⟨v1, v2, v3, ok, rfl, hb4, hx⟩
              have hx2 := hx.out.resolve_right (fun ⟨_, _, _, _, k, hk⟩ => Hov.out k hk)
              obtain ⟨rfl, k, hk1, hk2, hd, _⟩ := hx2
              rw [canon_cn D HD.out (by omega) (by omega), ← HC.out] at hd
              obtain ⟨an, cn', bn, cb, rfl, rfl, _, _⟩ := hd.rd.shapes
              obtain ⟨d0, d1, g0, g1⟩ := blk2 (blkBel hb4 kA))
           | (go_at_call 113
              refine (HCall.out _ bD).mono ?_
              rintro e w4 ⟨v1, v2, v3, ok, rfl, hb4, hx⟩
              have hx2 := hx.out.resolve_right (fun ⟨_, _, _, _, k, hk⟩ => Hov.out k hk)
              obtain ⟨rfl, k, hk1, hk2, hd, _⟩ := hx2
              rw [canon_cn D HD.out (by omega) (by omega), ← HC.out] at hd
              obtain ⟨an, cn', bn, cb, rfl, rfl, _, _⟩ := hd.rd.shapes))
  all_goals (
    first
    | (change Exit.then _ _ Exit.normal _ (w4.alloc _)
       have bf : Below w2.heap.size w2 (w4.alloc (.cells #[.slice an C.1.length cn', .slice bn C.2.length cb] 42)) := (bD.trans (hb4.mono bD.size)).alloc (Nat.le_trans bD.size hb4.size) _
       have kf : (w4.alloc (.cells #[.slice an C.1.length cn', .slice bn C.2.length cb] 42)).heap[w4.heap.size]? = some (.cells #[.slice an C.1.length cn', .slice bn C.2.length cb] 42 (0, 0)) := blkNew _ _ rfl
       have hdf : Hid (DfaW (fun b => w2.heap.size ≤ b ∧ b < (w4.alloc (.cells #[.slice an C.1.length cn', .slice bn C.2.length cb] 42)).heap.size) (w4.alloc (.cells #[.slice an C.1.length cn', .slice bn C.2.length cb] 42)) (.slice an C.1.length cn') (.slice bn C.2.length cb) C) :=
         (hd.stay (ksB ((Below.refl _ _).alloc (Nat.le_refl _) _))).mono (fun b hb => ⟨Nat.le_trans bD.size hb.1, by rw [World.size_alloc]; omega⟩)
       have hne : w4.heap.size ≠ w.heap.size + 1 := by have := (Array.getElem?_eq_some_iff.1 (blkBel (bD.trans (hb4.mono bD.size)) K1'.out)).1; omega
       generalize w4.alloc (.cells #[.slice an C.1.length cn', .slice bn C.2.length cb] 42) = wf at *
       generalize w4.heap.size = B4 at *)
    | (have bf : Below w2.heap.size w2 ((w4.setCell ⟨w2.heap.size, 0, none⟩ (.slice an C.1.length cn')).setCell ⟨w2.heap.size, 1, none⟩ (.slice bn C.2.length cb)) := ((bA.trans (hb4.mono bA.size)).setCell (p := ⟨w2.heap.size, 0, none⟩) (Nat.le_refl _) _).setCell (p := ⟨w2.heap.size, 1, none⟩) (Nat.le_refl _) _
       have kf : ((w4.setCell ⟨w2.heap.size, 0, none⟩ (.slice an C.1.length cn')).setCell ⟨w2.heap.size, 1, none⟩ (.slice bn C.2.length cb)).heap[w2.heap.size]? = some (.cells #[.slice an C.1.length cn', .slice bn C.2.length cb] 42 (0, 0)) := by
         rw [heap_set (heap_set (blkBel hb4 kA) 0 (.slice an C.1.length cn')) 1 (.slice bn C.2.length cb)]; rfl
       have hdf : Hid (DfaW (fun b => w2.heap.size ≤ b ∧ b < ((w4.setCell ⟨w2.heap.size, 0, none⟩ (.slice an C.1.length cn')).setCell ⟨w2.heap.size, 1, none⟩ (.slice bn C.2.length cb)).heap.size) ((w4.setCell ⟨w2.heap.size, 0, none⟩ (.slice an C.1.length cn')).setCell ⟨w2.heap.size, 1, none⟩ (.slice bn C.2.length cb)) (.slice an C.1.length cn') (.slice bn C.2.length cb) C) := by
         refine (hd.stay (fun b hb _ => ?_)).mono (fun b hb => ⟨Nat.le_trans bA.size hb.1, by simpa [World.setCell] using hb.2⟩)
         have hne : b ≠ w2.heap.size := by
           have := hb.1
           have hz : (w2.alloc (.cells #[.slice none 0 0, .slice none 0 0] 42)).drew.heap.size = w2.heap.size + 1 := World.size_alloc _ _
           omega
         rw [Below.heap_setCell _ _ _ _ hne, Below.heap_setCell _ _ _ _ hne]
       have hne : w2.heap.size ≠ w.heap.size + 1 := by have := (Array.getElem?_eq_some_iff.1 K1'.out).1; omega
       generalize (w4.setCell ⟨w2.heap.size, 0, none⟩ (.slice an C.1.length cn')).setCell ⟨w2.heap.size, 1, none⟩ (.slice bn C.2.length cb) = wf at *))
  all_goals (
    have hbw := HbT.out.trans (bf.mono HbT.out.size)
    have k1f := blkBel bf K1'.out
    obtain ⟨e0, e1, _, _⟩ := blk2 kf
    obtain ⟨z0, z1, y0, y1⟩ := blk2 k1f
    have hlt1 := (Array.getElem?_eq_some_iff.1 K1'.out).1
    have hsz := bf.size
    have hwz := HbT.out.size
    clear hd hb4 kf k1f bf H
    go_wp2
    have f0 := cell_setOther (o := 1) (u := .slice bn C.2.length cb) (cell_setSame (u := .slice an C.1.length cn') z0) (by omega)
    have f1 := cell_setSame (u := .slice bn C.2.length cb) (cell_setOther (o := 0) (u := .slice an C.1.length cn') z1 (by omega))
    refine bodyPost_ret (v := .agg #[.slice an C.1.length cn', .slice bn C.2.length cb]) (by simp [results, Try.results82, go_sem, f0, f1]) rfl
      ⟨_, _, rfl, (hbw.setCell (by simp) _).setCell (by simp) _, ?_⟩
    rw [← HC.out]
    refine (hdf.out.stay (fun b hb _ => ?_)).mono (fun b hb => ⟨by omega, by simpa [World.setCell] using hb.2⟩)
    have hnb : b ≠ w.heap.size + 1 := by omega
    rw [Below.heap_setCell _ _ _ _ hnb, Below.heap_setCell _ _ _ _ hnb])
end Go.Proofs.Ytofamhgkiipagaa
