/- TurnNfa: the program's answer and the reference's. -/
import Derived.Test.YtgihihnbapnnjaaTrs
import Derived.Test.YtgihihnbapnnjaaNfp
set_option linter.unusedSimpArgs false
set_option linter.unusedVariables false
set_option linter.unusedSectionVars false
namespace Go.Proofs.Ytgihihnbapnnjaa
open Go.RowKit
set_option maxRecDepth 100000
variable {S T : Nat → Prop}
open Classical in
noncomputable def tnv (D : NfaD) : NfaD := if okN D then turnD D else nfa0
theorem tnv_yes {D : NfaD} (h : okN D) : tnv D = turnD D := by unfold tnv; rw [if_pos h]
theorem tnv_no {D : NfaD} (h : ¬ okN D) : tnv D = nfa0 := by unfold tnv; rw [if_neg h]
theorem tnvSmall (D : NfaD) : smallW (tnv D) := by
  by_cases h : okN D
  · rw [tnv_yes h]
    have := okN_len h
    unfold smallW turnD
    simp
    omega
  · rw [tnv_no h]; unfold smallW nfa0; simp
set_option maxHeartbeats 1000000 in
theorem TurnNfa_c (vm vf ve : Value) (D : NfaD) (w : World) (h : NfaR S w vm vf ve D) : Calls Try.prog 34 #[.agg #[.int .i64 D.states, vm, vf, ve]] w (RNf w (tnv D)) := by
  obtain ⟨a1, c1, a2, c2, a3, c3, rfl, rfl, rfl, hn1, hn2, hn3⟩ := h.shapes
  obtain ⟨W, hW⟩ : ∃ W, W = (w.alloc (.cells #[.int .i64 D.states, .slice a1 D.moves.length c1, .slice a2 D.firsts.length c2, .slice a3 D.ends.length c3] 46)).alloc (.cells #[.int .i64 0, .slice none 0 0, .slice none 0 0, .slice none 0 0] 46) := ⟨_, rfl⟩
  have Hb0 : Hid (Below w.heap.size w W) := by rw [hW]; exact ((Below.refl _ _).alloc (Nat.le_refl _) _).alloc (by simp) _
  have k0 : Hid (W.heap[w.heap.size]? = some (.cells #[.int .i64 D.states, .slice a1 D.moves.length c1, .slice a2 D.firsts.length c2, .slice a3 D.ends.length c3] 46 (0, 0))) := by rw [hW]; exact blkOld (blkNew _ _ rfl)
  have k1 : Hid (W.heap[w.heap.size + 1]? = some (.cells #[.int .i64 0, .slice none 0 0, .slice none 0 0, .slice none 0 0] 46 (0, 0))) := by rw [hW]; exact blkNew _ _ (by simp)
  have hz : Hid (W.heap.size = w.heap.size + 2) := by rw [hW]; simp [Hid]
  have H := Lib.hid h; clear h
  have HW := Lib.hid hW; clear hW
  go_enter Try.func34, Try.ntmps34
  go_wp2_with fail
  rw [← HW.out]
  clear HW
  obtain ⟨c0, d1, d2, d3⟩ := blk4 k0.out
  go_wp2_with fail
  clear c0 d1 d2 d3
  refine (NfaValid_c _ _ _ D W (H.out.stay (kpB Hb0.out))).mono ?_
  rintro e w1 ⟨b1, rfl, hb, hv⟩
  replace Hb0 := Lib.hid (Hb0.out.trans (hb.mono Hb0.out.size))
  replace k0 := Lib.hid (blkBel hb k0.out)
  replace k1 := Lib.hid (blkBel hb k1.out)
  have hz1 := hb.size; clear hb
  cases b1
  · have Ho := Lib.hid (tnv_no (hbF hv)); clear hv
    obtain ⟨e0, e1, e2, e3⟩ := blk4 k1.out
    have g1 := blkFz k1.out
    go_wp2
    refine bodyPost_ret (v := .agg #[.int .i64 0, .slice none 0 0, .slice none 0 0, .slice none 0 0]) (by simp [results, Try.results34, go_sem, e0, e1, e2, e3, g1]) rfl ⟨_, _, _, by rw [Ho.out]; rfl, bel4 Hb0.out (by omega) _ _ _ _, by rw [Ho.out]; exact NfaO.nil _ _⟩
  have hD := hbT hv; clear hv
  have Ho := Lib.hid (tnv_yes hD)
  have HD := Lib.hid hD; clear hD
  obtain ⟨c0, d1, d2, d3⟩ := blk4 k0.out
  go_wp2_with fail
  clear c0 d1 d2 d3
  refine (turn_c _ _ _ D w1 (H.out.stay (kpB Hb0.out)) HD.out).mono ?_
  rintro e w2 ⟨vm, vf, ve, rfl, hb, ho⟩
  replace Hb0 := Lib.hid (Hb0.out.trans (hb.mono Hb0.out.size))
  replace k1 := Lib.hid (blkBel hb k1.out)
  clear hb k0
  have HN := Lib.hid (ho.out.base (base' := w.heap.size) (by have := hz.out; omega)); clear ho
  obtain ⟨a1', n1, ca1, rfl⟩ := HN.out.1.sl
  obtain ⟨a2', n2, ca2, rfl⟩ := HN.out.2.1.sl
  obtain ⟨a3', n3, ca3, rfl⟩ := HN.out.2.2.1.sl
  obtain ⟨x, hx⟩ : ∃ x, x = (turnD D).states := ⟨_, rfl⟩
  rw [← hx]
  have Hx := Lib.hid hx; clear hx
  obtain ⟨e0, e1, e2, e3⟩ := blk4 k1.out
  have g1 := blkFz k1.out
  go_wp2
  refine bodyPost_ret (v := .agg #[.int .i64 x, .slice a1' n1 ca1, .slice a2' n2 ca2, .slice a3' n3 ca3]) (by simp [results, Try.results34, go_sem, e0, e1, e2, e3, g1]) rfl ⟨_, _, _, by rw [Ho.out, Hx.out], bel4 Hb0.out (by omega) _ _ _ _, ?_⟩
  rw [Ho.out]
  exact HN.out.set4 _ (by omega) k1.out (by decide) _ _ _ _
set_option maxHeartbeats 1000000 in
theorem sTurnNfa_c (vm vf ve : Value) (D : NfaD) (w : World) (h : NfaR S w vm vf ve D) : Calls Try.prog 32 #[.agg #[.int .i64 D.states, vm, vf, ve]] w (RNf w (tnv D)) := by
  obtain ⟨a1, c1, a2, c2, a3, c3, rfl, rfl, rfl, hn1, hn2, hn3⟩ := h.shapes
  obtain ⟨W, hW⟩ : ∃ W, W = (w.alloc (.cells #[.int .i64 D.states, .slice a1 D.moves.length c1, .slice a2 D.firsts.length c2, .slice a3 D.ends.length c3] 46)).alloc (.cells #[.int .i64 0, .slice none 0 0, .slice none 0 0, .slice none 0 0] 46) := ⟨_, rfl⟩
  have Hb0 : Hid (Below w.heap.size w W) := by rw [hW]; exact ((Below.refl _ _).alloc (Nat.le_refl _) _).alloc (by simp) _
  have k0 : Hid (W.heap[w.heap.size]? = some (.cells #[.int .i64 D.states, .slice a1 D.moves.length c1, .slice a2 D.firsts.length c2, .slice a3 D.ends.length c3] 46 (0, 0))) := by rw [hW]; exact blkOld (blkNew _ _ rfl)
  have k1 : Hid (W.heap[w.heap.size + 1]? = some (.cells #[.int .i64 0, .slice none 0 0, .slice none 0 0, .slice none 0 0] 46 (0, 0))) := by rw [hW]; exact blkNew _ _ (by simp)
  have hz : Hid (W.heap.size = w.heap.size + 2) := by rw [hW]; simp [Hid]
  have H := Lib.hid h; clear h
  have HW := Lib.hid hW; clear hW
  go_enter Try.func32, Try.ntmps32
  go_wp2_with fail
  rw [← HW.out]
  clear HW
  obtain ⟨c0, d1, d2, d3⟩ := blk4 k0.out
  go_wp2_with fail
  clear c0 d1 d2 d3
  refine (sNfaValid_c _ _ _ D W (H.out.stay (kpB Hb0.out))).mono ?_
  rintro e w1 ⟨b1, rfl, hb, hv⟩
  replace Hb0 := Lib.hid (Hb0.out.trans (hb.mono Hb0.out.size))
  replace k0 := Lib.hid (blkBel hb k0.out)
  replace k1 := Lib.hid (blkBel hb k1.out)
  have hz1 := hb.size; clear hb
  cases b1
  · have Ho := Lib.hid (tnv_no (hbF hv)); clear hv
    obtain ⟨e0, e1, e2, e3⟩ := blk4 k1.out
    have g1 := blkFz k1.out
    go_wp2
    refine bodyPost_ret (v := .agg #[.int .i64 0, .slice none 0 0, .slice none 0 0, .slice none 0 0]) (by simp [results, Try.results32, go_sem, e0, e1, e2, e3, g1]) rfl ⟨_, _, _, by rw [Ho.out]; rfl, bel4 Hb0.out (by omega) _ _ _ _, by rw [Ho.out]; exact NfaO.nil _ _⟩
  have hD := hbT hv; clear hv
  have Ho := Lib.hid (tnv_yes hD)
  have HD := Lib.hid hD; clear hD
  obtain ⟨c0, d1, d2, d3⟩ := blk4 k0.out
  go_wp2_with fail
  clear c0 d1 d2 d3
  refine (l10Turn_c _ _ _ D w1 (H.out.stay (kpB Hb0.out)) HD.out).mono ?_
  rintro e w2 ⟨vm, vf, ve, rfl, hb, ho⟩
  replace Hb0 := Lib.hid (Hb0.out.trans (hb.mono Hb0.out.size))
  replace k1 := Lib.hid (blkBel hb k1.out)
  clear hb k0
  have HN := Lib.hid (ho.out.base (base' := w.heap.size) (by have := hz.out; omega)); clear ho
  obtain ⟨a1', n1, ca1, rfl⟩ := HN.out.1.sl
  obtain ⟨a2', n2, ca2, rfl⟩ := HN.out.2.1.sl
  obtain ⟨a3', n3, ca3, rfl⟩ := HN.out.2.2.1.sl
  obtain ⟨x, hx⟩ : ∃ x, x = (turnD D).states := ⟨_, rfl⟩
  rw [← hx]
  have Hx := Lib.hid hx; clear hx
  obtain ⟨e0, e1, e2, e3⟩ := blk4 k1.out
  have g1 := blkFz k1.out
  go_wp2
  refine bodyPost_ret (v := .agg #[.int .i64 x, .slice a1' n1 ca1, .slice a2' n2 ca2, .slice a3' n3 ca3]) (by simp [results, Try.results32, go_sem, e0, e1, e2, e3, g1]) rfl ⟨_, _, _, by rw [Ho.out, Hx.out], bel4 Hb0.out (by omega) _ _ _ _, ?_⟩
  rw [Ho.out]
  exact HN.out.set4 _ (by omega) k1.out (by decide) _ _ _ _
end Go.Proofs.Ytgihihnbapnnjaa
