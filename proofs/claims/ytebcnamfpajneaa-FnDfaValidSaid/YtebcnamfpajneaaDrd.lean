/- Automata drawn for the laws. -/
import Derived.Test.YtebcnamfpajneaaDda
set_option linter.unusedSimpArgs false
set_option linter.unusedVariables false
set_option linter.unusedSectionVars false
namespace Go.Proofs.Ytebcnamfpajneaa
open Go.RowKit
set_option maxRecDepth 100000
variable {S T : Nat → Prop}
/-- The call answers an automaton to be read. -/
def RDa (w : World) (e : Ending) (w' : World) : Prop := ∃ (D : DfaD) (v1 v2 : Value), e = .returned (.agg #[v1, v2]) ∧ Below w.heap.size w w' ∧ Hid (DfaR (w.heap.size ≤ ·) w' v1 v2 D)
theorem RDa.fin {w W w2 w' : World} {g rb : Nat} {D : DfaD} {v1 v2 : Value} (hW : Below w.heap.size w W) (hg : w.heap.size = g) (hg2 : g < W.heap.size) (h2 : Below W.heap.size W w2) (hrb : W.heap.size ≤ rb) (hd : Dr rb w2 w') (h : DfaR (w2.heap.size ≤ ·) w' v1 v2 D) :
    RDa w (.returned (.agg #[v1, v2])) ((w'.setCell ⟨g, 0, none⟩ v1).setCell ⟨g, 1, none⟩ v2) := by
  have k1 : Kp (· ≠ g) w' ((w'.setCell ⟨g, 0, none⟩ v1).setCell ⟨g, 1, none⟩ v2) := kpSet.trans kpSet
  have hs2 := h2.size
  have hs := hW.size
  refine ⟨D, v1, v2, rfl, (((hW.trans (h2.mono hs)).trans (hd.bel (by omega) (by omega))).setCell (p := ⟨g, 0, none⟩) (show w.heap.size ≤ g by omega) _).setCell (p := ⟨g, 1, none⟩) (show w.heap.size ≤ g by omega) _, ?_⟩
  exact Lib.hid ((h.stay (k1.mono fun b h => by omega)).mono fun b h => by omega)
set_option maxHeartbeats 400000 in
theorem DrawDfaTrim_c (v : Value) (bs : List UInt8) (w : World) (h : Bytes S w v bs) : Calls Try.prog 23 #[v] w (RDa w) := by
  obtain ⟨W, hW⟩ : ∃ W, W = w.alloc (.cells #[.slice none 0 0, .slice none 0 0] 26) := ⟨_, rfl⟩
  have Hb0 : Hid (Below w.heap.size w W) := by rw [hW]; exact (Below.refl _ _).alloc (Nat.le_refl _) _
  have K2 : Hid (W.heap[w.heap.size]? = some (.cells #[.slice none 0 0, .slice none 0 0] 26 (0, 0))) := by rw [hW]; exact blkNew _ _ rfl
  have hz : Hid (W.heap.size = w.heap.size + 1) := by rw [hW]; simp [Hid]
  have H := Lib.hid (h.stay (kpB Hb0.out)); clear h
  have HW := Lib.hid hW; clear hW
  go_enter Try.func23, Try.ntmps23
  go_wp2_with fail
  rw [← HW.out]
  clear HW
  refine (open_x _ _ W H.out).mono ?_
  rintro e w2 ⟨rb, rfl, hrb, hb2, hr2⟩
  have hz2 := hz.out
  have hs2 := hb2.size
  go_wp2_with fail
  refine (l20Dfa_c rb 0 12 w2 hr2.out (by omega) (by omega)).mono ?_
  rintro e w3 ⟨D, v1, v2, p3, rfl, hp3, hd3, hr3, hD3⟩
  obtain ⟨aN, cN, aE, cE, rfl, rfl, _, _⟩ := hD3.out.shapes
  have K3 := Lib.hid (hd3.blk (blkBel hb2 K2.out) (by omega))
  obtain ⟨c0, c1, f0, f1⟩ := blk2 K3.out
  clear hz2
  go_wp2
  refine bodyPost_ret (v := .agg #[.slice aN D.1.length cN, .slice aE D.2.length cE]) (by simp [results, Try.results23, go_sem, c0, c1, f0]) rfl ?_
  exact RDa.fin Hb0.out rfl (by rw [hz.out]; omega) hb2 hrb hd3 hD3.out
set_option maxHeartbeats 400000 in
theorem DrawMinimize_c (v : Value) (bs : List UInt8) (w : World) (h : Bytes S w v bs) : Calls Try.prog 48 #[v] w (RDa w) := by
  obtain ⟨W, hW⟩ : ∃ W, W = w.alloc (.cells #[.slice none 0 0, .slice none 0 0] 26) := ⟨_, rfl⟩
  have Hb0 : Hid (Below w.heap.size w W) := by rw [hW]; exact (Below.refl _ _).alloc (Nat.le_refl _) _
  have K2 : Hid (W.heap[w.heap.size]? = some (.cells #[.slice none 0 0, .slice none 0 0] 26 (0, 0))) := by rw [hW]; exact blkNew _ _ rfl
  have hz : Hid (W.heap.size = w.heap.size + 1) := by rw [hW]; simp [Hid]
  have H := Lib.hid (h.stay (kpB Hb0.out)); clear h
  have HW := Lib.hid hW; clear hW
  go_enter Try.func48, Try.ntmps48
  go_wp2_with fail
  rw [← HW.out]
  clear HW
  refine (open_x _ _ W H.out).mono ?_
  rintro e w2 ⟨rb, rfl, hrb, hb2, hr2⟩
  have hz2 := hz.out
  have hs2 := hb2.size
  go_wp2_with fail
  refine (l20Dfa_c rb 0 12 w2 hr2.out (by omega) (by omega)).mono ?_
  rintro e w3 ⟨D, v1, v2, p3, rfl, hp3, hd3, hr3, hD3⟩
  obtain ⟨aN, cN, aE, cE, rfl, rfl, _, _⟩ := hD3.out.shapes
  have K3 := Lib.hid (hd3.blk (blkBel hb2 K2.out) (by omega))
  obtain ⟨c0, c1, f0, f1⟩ := blk2 K3.out
  clear hz2
  go_wp2
  refine bodyPost_ret (v := .agg #[.slice aN D.1.length cN, .slice aE D.2.length cE]) (by simp [results, Try.results48, go_sem, c0, c1, f0]) rfl ?_
  exact RDa.fin Hb0.out rfl (by rw [hz.out]; omega) hb2 hrb hd3 hD3.out
set_option maxHeartbeats 400000 in
theorem DrawDfaValid_c (v : Value) (bs : List UInt8) (w : World) (h : Bytes S w v bs) : Calls Try.prog 15 #[v] w (RDa w) := by
  obtain ⟨W, hW⟩ : ∃ W, W = w.alloc (.cells #[.slice none 0 0, .slice none 0 0] 26) := ⟨_, rfl⟩
  have Hb0 : Hid (Below w.heap.size w W) := by rw [hW]; exact (Below.refl _ _).alloc (Nat.le_refl _) _
  have K2 : Hid (W.heap[w.heap.size]? = some (.cells #[.slice none 0 0, .slice none 0 0] 26 (0, 0))) := by rw [hW]; exact blkNew _ _ rfl
  have hz : Hid (W.heap.size = w.heap.size + 1) := by rw [hW]; simp [Hid]
  have H := Lib.hid (h.stay (kpB Hb0.out)); clear h
  have HW := Lib.hid hW; clear hW
  go_enter Try.func15, Try.ntmps15
  go_wp2_with fail
  rw [← HW.out]
  clear HW
  refine (open_x _ _ W H.out).mono ?_
  rintro e w2 ⟨rb, rfl, hrb, hb2, hr2⟩
  have hz2 := hz.out
  have hs2 := hb2.size
  go_wp2_with fail
  refine (l20Dfa_c rb 0 2 w2 hr2.out (by omega) (by omega)).mono ?_
  rintro e w3 ⟨D, v1, v2, p3, rfl, hp3, hd3, hr3, hD3⟩
  obtain ⟨aN, cN, aE, cE, rfl, rfl, _, _⟩ := hD3.out.shapes
  have K3 := Lib.hid (hd3.blk (blkBel hb2 K2.out) (by omega))
  obtain ⟨c0, c1, f0, f1⟩ := blk2 K3.out
  clear hz2
  go_wp2
  refine bodyPost_ret (v := .agg #[.slice aN D.1.length cN, .slice aE D.2.length cE]) (by simp [results, Try.results15, go_sem, c0, c1, f0]) rfl ?_
  exact RDa.fin Hb0.out rfl (by rw [hz.out]; omega) hb2 hrb hd3 hD3.out
set_option maxHeartbeats 400000 in
theorem DrawSameStates_c (v : Value) (bs : List UInt8) (w : World) (h : Bytes S w v bs) : Calls Try.prog 19 #[v] w (RDa w) := by
  obtain ⟨W, hW⟩ : ∃ W, W = w.alloc (.cells #[.slice none 0 0, .slice none 0 0] 26) := ⟨_, rfl⟩
  have Hb0 : Hid (Below w.heap.size w W) := by rw [hW]; exact (Below.refl _ _).alloc (Nat.le_refl _) _
  have K2 : Hid (W.heap[w.heap.size]? = some (.cells #[.slice none 0 0, .slice none 0 0] 26 (0, 0))) := by rw [hW]; exact blkNew _ _ rfl
  have hz : Hid (W.heap.size = w.heap.size + 1) := by rw [hW]; simp [Hid]
  have H := Lib.hid (h.stay (kpB Hb0.out)); clear h
  have HW := Lib.hid hW; clear hW
  go_enter Try.func19, Try.ntmps19
  go_wp2_with fail
  rw [← HW.out]
  clear HW
  refine (open_x _ _ W H.out).mono ?_
  rintro e w2 ⟨rb, rfl, hrb, hb2, hr2⟩
  have hz2 := hz.out
  have hs2 := hb2.size
  go_wp2_with fail
  refine (l20Dfa_c rb 0 12 w2 hr2.out (by omega) (by omega)).mono ?_
  rintro e w3 ⟨D, v1, v2, p3, rfl, hp3, hd3, hr3, hD3⟩
  obtain ⟨aN, cN, aE, cE, rfl, rfl, _, _⟩ := hD3.out.shapes
  have K3 := Lib.hid (hd3.blk (blkBel hb2 K2.out) (by omega))
  obtain ⟨c0, c1, f0, f1⟩ := blk2 K3.out
  clear hz2
  go_wp2
  refine bodyPost_ret (v := .agg #[.slice aN D.1.length cN, .slice aE D.2.length cE]) (by simp [results, Try.results19, go_sem, c0, c1, f0]) rfl ?_
  exact RDa.fin Hb0.out rfl (by rw [hz.out]; omega) hb2 hrb hd3 hD3.out
set_option maxHeartbeats 400000 in
theorem DrawUsefulStates_c (v : Value) (bs : List UInt8) (w : World) (h : Bytes S w v bs) : Calls Try.prog 29 #[v] w (RDa w) := by
  obtain ⟨W, hW⟩ : ∃ W, W = w.alloc (.cells #[.slice none 0 0, .slice none 0 0] 26) := ⟨_, rfl⟩
  have Hb0 : Hid (Below w.heap.size w W) := by rw [hW]; exact (Below.refl _ _).alloc (Nat.le_refl _) _
  have K2 : Hid (W.heap[w.heap.size]? = some (.cells #[.slice none 0 0, .slice none 0 0] 26 (0, 0))) := by rw [hW]; exact blkNew _ _ rfl
  have hz : Hid (W.heap.size = w.heap.size + 1) := by rw [hW]; simp [Hid]
  have H := Lib.hid (h.stay (kpB Hb0.out)); clear h
  have HW := Lib.hid hW; clear hW
  go_enter Try.func29, Try.ntmps29
  go_wp2_with fail
  rw [← HW.out]
  clear HW
  refine (open_x _ _ W H.out).mono ?_
  rintro e w2 ⟨rb, rfl, hrb, hb2, hr2⟩
  have hz2 := hz.out
  have hs2 := hb2.size
  go_wp2_with fail
  refine (l20Dfa_c rb 0 12 w2 hr2.out (by omega) (by omega)).mono ?_
  rintro e w3 ⟨D, v1, v2, p3, rfl, hp3, hd3, hr3, hD3⟩
  obtain ⟨aN, cN, aE, cE, rfl, rfl, _, _⟩ := hD3.out.shapes
  have K3 := Lib.hid (hd3.blk (blkBel hb2 K2.out) (by omega))
  obtain ⟨c0, c1, f0, f1⟩ := blk2 K3.out
  clear hz2
  go_wp2
  refine bodyPost_ret (v := .agg #[.slice aN D.1.length cN, .slice aE D.2.length cE]) (by simp [results, Try.results29, go_sem, c0, c1, f0]) rfl ?_
  exact RDa.fin Hb0.out rfl (by rw [hz.out]; omega) hb2 hrb hd3 hD3.out
set_option maxHeartbeats 400000 in
theorem DrawFirstOf_c (v : Value) (bs : List UInt8) (w : World) (h : Bytes S w v bs) : Calls Try.prog 33 #[v] w (RDa w) := by
  obtain ⟨W, hW⟩ : ∃ W, W = w.alloc (.cells #[.slice none 0 0, .slice none 0 0] 26) := ⟨_, rfl⟩
  have Hb0 : Hid (Below w.heap.size w W) := by rw [hW]; exact (Below.refl _ _).alloc (Nat.le_refl _) _
  have K2 : Hid (W.heap[w.heap.size]? = some (.cells #[.slice none 0 0, .slice none 0 0] 26 (0, 0))) := by rw [hW]; exact blkNew _ _ rfl
  have hz : Hid (W.heap.size = w.heap.size + 1) := by rw [hW]; simp [Hid]
  have H := Lib.hid (h.stay (kpB Hb0.out)); clear h
  have HW := Lib.hid hW; clear hW
  go_enter Try.func33, Try.ntmps33
  go_wp2_with fail
  rw [← HW.out]
  clear HW
  refine (open_x _ _ W H.out).mono ?_
  rintro e w2 ⟨rb, rfl, hrb, hb2, hr2⟩
  have hz2 := hz.out
  have hs2 := hb2.size
  go_wp2_with fail
  refine (l20Dfa_c rb 0 12 w2 hr2.out (by omega) (by omega)).mono ?_
  rintro e w3 ⟨D, v1, v2, p3, rfl, hp3, hd3, hr3, hD3⟩
  obtain ⟨aN, cN, aE, cE, rfl, rfl, _, _⟩ := hD3.out.shapes
  have K3 := Lib.hid (hd3.blk (blkBel hb2 K2.out) (by omega))
  obtain ⟨c0, c1, f0, f1⟩ := blk2 K3.out
  clear hz2
  go_wp2
  refine bodyPost_ret (v := .agg #[.slice aN D.1.length cN, .slice aE D.2.length cE]) (by simp [results, Try.results33, go_sem, c0, c1, f0]) rfl ?_
  exact RDa.fin Hb0.out rfl (by rw [hz.out]; omega) hb2 hrb hd3 hD3.out
end Go.Proofs.Ytebcnamfpajneaa
