/- NfaJoin: the program's answer. -/
import Derived.Test.YtnjddneelkdmoaaChk
import Derived.Test.YtnjddneelkdmoaaEjd
import Derived.Test.YtnjddneelkdmoaaJnn
set_option linter.unusedSimpArgs false
set_option linter.unusedVariables false
set_option linter.unusedSectionVars false
namespace Go.Proofs.Ytnjddneelkdmoaa
open Go.RowKit
set_option maxRecDepth 100000
variable {S T : Nat → Prop}
set_option maxHeartbeats 2000000 in
theorem NfaJoin_c (vma vfa vea vmb vfb veb : Value) (A B : NfaD) (w : World) (hA : NfaR S w vma vfa vea A) (hB : NfaR T w vmb vfb veb B) :
    Calls Try.prog 103 #[.agg #[.int .i64 A.states, vma, vfa, vea], .agg #[.int .i64 B.states, vmb, vfb, veb]] w (RNb w (jnN A B) (jnB A B)) := by
  obtain ⟨a1a, c1a, a2a, c2a, a3a, c3a, rfl, rfl, rfl, _, _, _⟩ := hA.shapes
  obtain ⟨a1b, c1b, a2b, c2b, a3b, c3b, rfl, rfl, rfl, _, _, _⟩ := hB.shapes
  obtain ⟨W, hW⟩ : ∃ W, W = ((w.alloc (.cells #[.int .i64 A.states, .slice a1a A.moves.length c1a, .slice a2a A.firsts.length c2a, .slice a3a A.ends.length c3a] 36)).alloc (.cells #[.int .i64 B.states, .slice a1b B.moves.length c1b, .slice a2b B.firsts.length c2b, .slice a3b B.ends.length c3b] 36)).alloc (.cells #[.int .i64 0, .slice none 0 0, .slice none 0 0, .slice none 0 0] 36) := ⟨_, rfl⟩
  have Hb0 : Hid (Below w.heap.size w W) := by rw [hW]; exact (((Below.refl _ _).alloc (Nat.le_refl _) _).alloc (by simp) _).alloc (by simp; omega) _
  have k0 : Hid (W.heap[w.heap.size]? = some (.cells #[.int .i64 A.states, .slice a1a A.moves.length c1a, .slice a2a A.firsts.length c2a, .slice a3a A.ends.length c3a] 36 (0, 0))) := by rw [hW]; exact blkOld (blkOld (blkNew _ _ rfl))
  have k1 : Hid (W.heap[w.heap.size + 1]? = some (.cells #[.int .i64 B.states, .slice a1b B.moves.length c1b, .slice a2b B.firsts.length c2b, .slice a3b B.ends.length c3b] 36 (0, 0))) := by rw [hW]; exact blkOld (blkNew _ _ (by simp))
  have k2 : Hid (W.heap[w.heap.size + 2]? = some (.cells #[.int .i64 0, .slice none 0 0, .slice none 0 0, .slice none 0 0] 36 (0, 0))) := by rw [hW]; exact blkNew _ _ (by simp)
  have hz : Hid (W.heap.size = w.heap.size + 3) := by rw [hW]; simp [Hid]
  have HA := Lib.hid hA; have HB := Lib.hid hB; clear hA hB
  have HW := Lib.hid hW; clear hW
  go_enter Try.func103, Try.ntmps103
  go_wp2_with fail
  rw [← HW.out]
  clear HW
  obtain ⟨c0, d1, d2, d3⟩ := blk4 k0.out
  go_wp2_with fail
  clear c0 d1 d2 d3
  refine (NfaValid_c _ _ _ A W (HA.out.stay (kpB Hb0.out))).mono ?_
  rintro e w1 ⟨b1, rfl, hb, hv⟩
  replace Hb0 := Lib.hid (Hb0.out.trans (hb.mono Hb0.out.size))
  replace k0 := Lib.hid (blkBel hb k0.out)
  replace k1 := Lib.hid (blkBel hb k1.out)
  replace k2 := Lib.hid (blkBel hb k2.out)
  have hz1 := hb.size; clear hb
  cases b1
  · have HN := Lib.hid (jnN_no (A := A) (B := B) (fun h => hbF hv h.1)); have HBn := Lib.hid (jnB_no (A := A) (B := B) (fun h => hbF hv h.1)); clear hv
    obtain ⟨e0, e1, e2, e3⟩ := blk4 k2.out
    have g1 := blkFz k2.out
    go_wp2
    refine bodyPost_ret (v := .tuple #[.agg #[.int .i64 0, .slice none 0 0, .slice none 0 0, .slice none 0 0], .bool false]) (by simp [results, Try.results103, go_sem, e0, e1, e2, e3, g1]) rfl ⟨_, _, _, by rw [HN.out, HBn.out]; rfl, bel4 Hb0.out (by omega) _ _ _ _, by rw [HN.out]; exact NfaO.nil _ _⟩
  have HOA := Lib.hid (hbT hv); clear hv
  obtain ⟨c0, d1, d2, d3⟩ := blk4 k1.out
  go_wp2_with fail
  clear c0 d1 d2 d3
  refine (NfaValid_c _ _ _ B w1 (HB.out.stay (kpB Hb0.out))).mono ?_
  rintro e w2 ⟨b1, rfl, hb, hv⟩
  replace Hb0 := Lib.hid (Hb0.out.trans (hb.mono Hb0.out.size))
  replace k0 := Lib.hid (blkBel hb k0.out)
  replace k1 := Lib.hid (blkBel hb k1.out)
  replace k2 := Lib.hid (blkBel hb k2.out)
  have hz2 := hb.size; clear hb
  cases b1
  · have HN := Lib.hid (jnN_no (A := A) (B := B) (fun h => hbF hv h.2)); have HBn := Lib.hid (jnB_no (A := A) (B := B) (fun h => hbF hv h.2)); clear hv
    obtain ⟨e0, e1, e2, e3⟩ := blk4 k2.out
    have g1 := blkFz k2.out
    go_wp2
    refine bodyPost_ret (v := .tuple #[.agg #[.int .i64 0, .slice none 0 0, .slice none 0 0, .slice none 0 0], .bool false]) (by simp [results, Try.results103, go_sem, e0, e1, e2, e3, g1]) rfl ⟨_, _, _, by rw [HN.out, HBn.out]; rfl, bel4 Hb0.out (by omega) _ _ _ _, by rw [HN.out]; exact NfaO.nil _ _⟩
  have HOB := Lib.hid (hbT hv); clear hv
  have HN := Lib.hid (jnN_yes HOA.out HOB.out); have HBn := Lib.hid (jnB_yes HOA.out HOB.out)
  obtain ⟨c0, d1, d2, d3⟩ := blk4 k0.out
  obtain ⟨c0', d1', d2', d3'⟩ := blk4 k1.out
  go_wp2_with fail
  clear c0 d1 d2 d3 c0' d1' d2' d3'
  refine (joinNfa_c _ _ _ _ _ _ A B w2 (HA.out.stay (kpB Hb0.out)) (HB.out.stay (kpB Hb0.out)) HOA.out HOB.out).mono ?_
  rintro e w3 ⟨vm, vf, ve, rfl, hb, ho⟩
  have hz3 : w.heap.size ≤ w2.heap.size := Hb0.out.size
  replace Hb0 := Lib.hid (Hb0.out.trans (hb.mono Hb0.out.size))
  replace k2 := Lib.hid (blkBel hb k2.out)
  clear hb k0 k1
  have HO := Lib.hid (ho.out.base (base' := w.heap.size) hz3); clear ho
  obtain ⟨E, hE⟩ : ∃ E, E = joinD A B := ⟨_, rfl⟩
  rw [← hE] at HO HN HBn ⊢
  clear hE
  go_wp2_with fail
  refine (checkedNfa_c _ _ _ E w3 HO.out.w.rd).mono ?_
  rintro e w9 ⟨vm', vf', ve', rfl, hb, hc⟩
  have HO3 := Lib.hid (CK.o hc HO.out hb)
  replace Hb0 := Lib.hid (Hb0.out.trans (hb.mono Hb0.out.size))
  replace k2 := Lib.hid (blkBel hb k2.out)
  clear hb hc HO
  obtain ⟨a1', n1, ca1, rfl⟩ := HO3.out.1.sl
  obtain ⟨a2', n2, ca2, rfl⟩ := HO3.out.2.1.sl
  obtain ⟨a3', n3, ca3, rfl⟩ := HO3.out.2.2.1.sl
  obtain ⟨x, hx⟩ : ∃ x, x = (chkN E).states := ⟨_, rfl⟩
  obtain ⟨y, hy⟩ : ∃ y, y = chkB E := ⟨_, rfl⟩
  rw [← hx, ← hy]
  have Hx := Lib.hid hx; have Hy := Lib.hid hy; clear hx hy
  obtain ⟨e0, e1, e2, e3⟩ := blk4 k2.out
  have g1 := blkFz k2.out
  go_wp2
  refine bodyPost_ret (v := .tuple #[.agg #[.int .i64 x, .slice a1' n1 ca1, .slice a2' n2 ca2, .slice a3' n3 ca3], .bool y]) (by simp [results, Try.results103, go_sem, e0, e1, e2, e3, g1]) rfl ⟨_, _, _, by rw [HN.out, HBn.out, Hx.out, Hy.out], bel4 Hb0.out (by omega) _ _ _ _, ?_⟩
  rw [HN.out]
  exact HO3.out.set4 _ (by omega) k2.out (by decide) _ _ _ _
end Go.Proofs.Ytnjddneelkdmoaa
