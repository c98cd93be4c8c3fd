/- An automaton with choices if it is valid: the program's answer and the reference's. -/
import Derived.Test.YtbcjhiponbfbnaaNfs
set_option linter.unusedSimpArgs false
set_option linter.unusedVariables false
set_option linter.unusedSectionVars false
namespace Go.Proofs.Ytbcjhiponbfbnaa
open Go.RowKit
set_option maxRecDepth 100000
variable {S T : Nat → Prop}
/-- The automaton itself and true, if it is valid; the zero value and false. -/
def CK (w : World) (D : NfaD) (vm vf ve : Value) (e : Ending) (w' : World) : Prop := ∃ vm' vf' ve', e = .returned (.tuple #[.agg #[.int .i64 (chkN D).states, vm', vf', ve'], .bool (chkB D)]) ∧ Below w.heap.size w w' ∧
  Hid ((okN D ∧ vm' = vm ∧ vf' = vf ∧ ve' = ve) ∨ (¬ okN D ∧ vm' = .slice none 0 0 ∧ vf' = .slice none 0 0 ∧ ve' = .slice none 0 0))
theorem CK.o {w w' : World} {D : NfaD} {base : Nat} {vm vf ve vm' vf' ve' : Value} (h : Hid ((okN D ∧ vm' = vm ∧ vf' = vf ∧ ve' = ve) ∨ (¬ okN D ∧ vm' = .slice none 0 0 ∧ vf' = .slice none 0 0 ∧ ve' = .slice none 0 0)))
    (hn : NfaO base w vm vf ve D) (hb : Below w.heap.size w w') : NfaO base w' vm' vf' ve' (chkN D) := by
  rcases h.out with ⟨hD, rfl, rfl, rfl⟩ | ⟨hD, rfl, rfl, rfl⟩
  · rw [chkN_yes hD]; exact hn.stay hb
  · rw [chkN_no hD]; exact NfaO.nil _ _
set_option maxHeartbeats 1000000 in
theorem l13Limit_c (vm vf ve : Value) (D : NfaD) (w : World) (h : NfaR S w vm vf ve D) : Calls Try.prog 155 #[.agg #[.int .i64 D.states, vm, vf, ve]] w (CK w D vm vf ve) := by
  obtain ⟨a1, c1, a2, c2, a3, c3, rfl, rfl, rfl, hn1, hn2, hn3⟩ := h.shapes
  obtain ⟨W, hW⟩ : ∃ W, W = (w.alloc (.cells #[.int .i64 D.states, .slice a1 D.moves.length c1, .slice a2 D.firsts.length c2, .slice a3 D.ends.length c3] 36)).alloc (.cells #[.int .i64 0, .slice none 0 0, .slice none 0 0, .slice none 0 0] 36) := ⟨_, rfl⟩
  have Hb0 : Hid (Below w.heap.size w W) := by rw [hW]; exact ((Below.refl _ _).alloc (Nat.le_refl _) _).alloc (by simp) _
  have k0 : Hid (W.heap[w.heap.size]? = some (.cells #[.int .i64 D.states, .slice a1 D.moves.length c1, .slice a2 D.firsts.length c2, .slice a3 D.ends.length c3] 36 (0, 0))) := by rw [hW]; exact blkOld (blkNew _ _ rfl)
  have k1 : Hid (W.heap[w.heap.size + 1]? = some (.cells #[.int .i64 0, .slice none 0 0, .slice none 0 0, .slice none 0 0] 36 (0, 0))) := by rw [hW]; exact blkNew _ _ (by simp)
  have hz : Hid (W.heap.size = w.heap.size + 2) := by rw [hW]; simp [Hid]
  have H := Lib.hid h; clear h
  have HW := Lib.hid hW; clear hW
  go_enter Try.func155, Try.ntmps155
  go_wp2_with fail
  rw [← HW.out]
  clear HW
  obtain ⟨c0, d1, d2, d3⟩ := blk4 k0.out
  go_wp2_with fail
  clear c0 d1 d2 d3
  refine (sNfaValid_c _ _ _ D W (H.out.stay (kpB Hb0.out))).mono ?_
  rintro e w1 ⟨b1, rfl, hb, hv⟩
  replace Hb0 := Lib.hid (Hb0.out.trans (hb.mono Hb0.out.size))
  replace k0 := Lib.hid (blkBel hb k0.out)
  replace k1 := Lib.hid (blkBel hb k1.out)
  have hz1 := hb.size; clear hb
  cases b1
  · have hno := hbF hv; clear hv
    have HN := Lib.hid (chkN_no hno); have HB := Lib.hid (chkB_no hno); have Hno := Lib.hid hno; clear hno
    obtain ⟨e0, e1, e2, e3⟩ := blk4 k1.out
    have g1 := blkFz k1.out
    go_wp2
    refine bodyPost_ret (v := .tuple #[.agg #[.int .i64 0, .slice none 0 0, .slice none 0 0, .slice none 0 0], .bool false]) (by simp [results, Try.results155, go_sem, e0, e1, e2, e3, g1]) rfl ⟨_, _, _, by rw [HN.out, HB.out]; rfl, bel4 Hb0.out (by omega) _ _ _ _, .inr ⟨Hno.out, rfl, rfl, rfl⟩⟩
  · have hD := hbT hv; clear hv
    have HN := Lib.hid (chkN_yes hD); have HB := Lib.hid (chkB_yes hD); have HD := Lib.hid hD; clear hD
    obtain ⟨c0, d1, d2, d3⟩ := blk4 k0.out
    obtain ⟨e0, e1, e2, e3⟩ := blk4 k1.out
    have g1 := blkFz k1.out
    go_wp2
    refine bodyPost_ret (v := .tuple #[.agg #[.int .i64 D.states, .slice a1 D.moves.length c1, .slice a2 D.firsts.length c2, .slice a3 D.ends.length c3], .bool true]) (by simp [results, Try.results155, go_sem, e0, e1, e2, e3, g1]) rfl ⟨_, _, _, by rw [HN.out, HB.out], bel4 Hb0.out (by omega) _ _ _ _, .inl ⟨HD.out, rfl, rfl, rfl⟩⟩
end Go.Proofs.Ytbcjhiponbfbnaa
