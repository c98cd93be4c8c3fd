/- NfaStar: the program's answer. -/
import Derived.Test.YtnjddneelkdmoaaChk
import Derived.Test.YtnjddneelkdmoaaStr
import Derived.Test.YtnjddneelkdmoaaNfp
set_option linter.unusedSimpArgs false
set_option linter.unusedVariables false
set_option linter.unusedSectionVars false
namespace Go.Proofs.Ytnjddneelkdmoaa
open Go.RowKit
set_option maxRecDepth 100000
variable {S T : Nat → Prop}
open Classical in
noncomputable def stN (D : NfaD) : NfaD := if okN D then chkN (starD D) else nfa0
open Classical in
noncomputable def stB (D : NfaD) : Bool := if okN D then chkB (starD D) else false
theorem stN_yes {D : NfaD} (h : okN D) : stN D = chkN (starD D) := by unfold stN; rw [if_pos h]
theorem stN_no {D : NfaD} (h : ¬ okN D) : stN D = nfa0 := by unfold stN; rw [if_neg h]
theorem stB_yes {D : NfaD} (h : okN D) : stB D = chkB (starD D) := by unfold stB; rw [if_pos h]
theorem stB_no {D : NfaD} (h : ¬ okN D) : stB D = false := by unfold stB; rw [if_neg h]
theorem chkSmall (D : NfaD) : smallW (chkN D) := by
  by_cases h : okN D
  · rw [chkN_yes h]
    have := okN_len h
    unfold smallW
    omega
  · rw [chkN_no h]; unfold smallW nfa0; simp
theorem stSmall (D : NfaD) : smallW (stN D) := by
  by_cases h : okN D
  · rw [stN_yes h]; exact chkSmall _
  · rw [stN_no h]; unfold smallW nfa0; simp
set_option maxHeartbeats 1000000 in
theorem NfaStar_c (vm vf ve : Value) (D : NfaD) (w : World) (h : NfaR S w vm vf ve D) : Calls Try.prog 104 #[.agg #[.int .i64 D.states, vm, vf, ve]] w (RNb w (stN D) (stB D)) := by
  obtain ⟨a1, c1, a2, c2, a3, c3, rfl, rfl, rfl, hn1, hn2, hn3⟩ := h.shapes
  obtain ⟨W, hW⟩ : ∃ W, W = (w.alloc (.cells #[.int .i64 D.states, .slice a1 D.moves.length c1, .slice a2 D.firsts.length c2, .slice a3 D.ends.length c3] 36)).alloc (.cells #[.int .i64 0, .slice none 0 0, .slice none 0 0, .slice none 0 0] 36) := ⟨_, rfl⟩
  have Hb0 : Hid (Below w.heap.size w W) := by rw [hW]; exact ((Below.refl _ _).alloc (Nat.le_refl _) _).alloc (by simp) _
  have k0 : Hid (W.heap[w.heap.size]? = some (.cells #[.int .i64 D.states, .slice a1 D.moves.length c1, .slice a2 D.firsts.length c2, .slice a3 D.ends.length c3] 36 (0, 0))) := by rw [hW]; exact blkOld (blkNew _ _ rfl)
  have k1 : Hid (W.heap[w.heap.size + 1]? = some (.cells #[.int .i64 0, .slice none 0 0, .slice none 0 0, .slice none 0 0] 36 (0, 0))) := by rw [hW]; exact blkNew _ _ (by simp)
  have hz : Hid (W.heap.size = w.heap.size + 2) := by rw [hW]; simp [Hid]
  have H := Lib.hid h; clear h
  have HW := Lib.hid hW; clear hW
  go_enter Try.func104, Try.ntmps104
  go_wp2_with fail
  rw [← HW.out]
  clear HW
  obtain ⟨c0, d1, d2, d3⟩ := blk4 k0.out
  go_wp2_with fail
  clear c0 d1 d2 d3
  refine (NfaValid_c _ _ _ D W (H.out.stay (kpB Hb0.out))).mono ?_
  rintro e w1 ⟨b1, rfl, hb, hv⟩
  replace Hb0 := Lib.hid (Hb0.out.trans (hb.mono Hb0.out.size))
  replace k0 := Lib.hid (blkBel hb k0.out)
  replace k1 := Lib.hid (blkBel hb k1.out)
  have hz1 := hb.size; clear hb
  cases b1
  · have hno := hbF hv; clear hv
    have HN := Lib.hid (stN_no hno); have HB := Lib.hid (stB_no hno); clear hno
    obtain ⟨e0, e1, e2, e3⟩ := blk4 k1.out
    have g1 := blkFz k1.out
    go_wp2
    refine bodyPost_ret (v := .tuple #[.agg #[.int .i64 0, .slice none 0 0, .slice none 0 0, .slice none 0 0], .bool false]) (by simp [results, Try.results104, go_sem, e0, e1, e2, e3, g1]) rfl ⟨_, _, _, by rw [HN.out, HB.out]; rfl, bel4 Hb0.out (by omega) _ _ _ _, by rw [HN.out]; exact NfaO.nil _ _⟩
  have hD := hbT hv; clear hv
  have HN := Lib.hid (stN_yes hD); have HB := Lib.hid (stB_yes hD)
  have HD := Lib.hid hD; clear hD
  obtain ⟨c0, d1, d2, d3⟩ := blk4 k0.out
  go_wp2_with fail
  clear c0 d1 d2 d3
  refine (starNfa_c _ _ _ D w1 (H.out.stay (kpB Hb0.out)) HD.out).mono ?_
  rintro e w2 ⟨vm, vf, ve, rfl, hb, ho⟩
  replace Hb0 := Lib.hid (Hb0.out.trans (hb.mono Hb0.out.size))
  replace k1 := Lib.hid (blkBel hb k1.out)
  clear hb k0
  have HO := Lib.hid (ho.out.base (base' := w.heap.size) (by have := hz.out; omega)); clear ho
  obtain ⟨E, hE⟩ : ∃ E, E = starD D := ⟨_, rfl⟩
  rw [← hE] at HO HN HB ⊢
  clear hE
  go_wp2_with fail
  refine (checkedNfa_c _ _ _ E w2 HO.out.w.rd).mono ?_
  rintro e w3 ⟨vm', vf', ve', rfl, hb, hc⟩
  have HO3 := Lib.hid (CK.o hc HO.out hb)
  replace Hb0 := Lib.hid (Hb0.out.trans (hb.mono Hb0.out.size))
  replace k1 := Lib.hid (blkBel hb k1.out)
  clear hb hc HO
  obtain ⟨a1', n1, ca1, rfl⟩ := HO3.out.1.sl
  obtain ⟨a2', n2, ca2, rfl⟩ := HO3.out.2.1.sl
  obtain ⟨a3', n3, ca3, rfl⟩ := HO3.out.2.2.1.sl
  obtain ⟨x, hx⟩ : ∃ x, x = (chkN E).states := ⟨_, rfl⟩
  obtain ⟨y, hy⟩ : ∃ y, y = chkB E := ⟨_, rfl⟩
  rw [← hx, ← hy]
  have Hx := Lib.hid hx; have Hy := Lib.hid hy; clear hx hy
  obtain ⟨e0, e1, e2, e3⟩ := blk4 k1.out
  have g1 := blkFz k1.out
  go_wp2
  refine bodyPost_ret (v := .tuple #[.agg #[.int .i64 x, .slice a1' n1 ca1, .slice a2' n2 ca2, .slice a3' n3 ca3], .bool y]) (by simp [results, Try.results104, go_sem, e0, e1, e2, e3, g1]) rfl ⟨_, _, _, by rw [HN.out, HB.out, Hx.out, Hy.out], bel4 Hb0.out (by omega) _ _ _ _, ?_⟩
  rw [HN.out]
  exact HO3.out.set4 _ (by omega) k1.out (by decide) _ _ _ _
end Go.Proofs.Ytnjddneelkdmoaa
