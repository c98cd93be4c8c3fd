/- NfaJoin: the reference's answer. -/
import Derived.Test.YtbcjhiponbfbnaaChk
import Derived.Test.YtbcjhiponbfbnaaEjd
import Derived.Test.YtbcjhiponbfbnaaSjd
import Derived.Test.YtbcjhiponbfbnaaJnn
set_option linter.unusedSimpArgs false
set_option linter.unusedVariables false
set_option linter.unusedSectionVars false
namespace Go.Proofs.Ytbcjhiponbfbnaa
open Go.RowKit
set_option maxRecDepth 100000
variable {S T : Nat → Prop}
set_option maxHeartbeats 8000000 in
theorem sNfaJoin_c (vma vfa vea vmb vfb veb : Value) (A B : NfaD) (w : World) (hA : NfaR S w vma vfa vea A) (hB : NfaR T w vmb vfb veb B) :
    Calls Try.prog 138 #[.agg #[.int .i64 A.states, vma, vfa, vea], .agg #[.int .i64 B.states, vmb, vfb, veb]] w (RNb w (jnN A B) (jnB A B)) := by
  obtain ⟨a1a, c1a, a2a, c2a, a3a, c3a, rfl, rfl, rfl, _, _, _⟩ := hA.shapes
  obtain ⟨a1b, c1b, a2b, c2b, a3b, c3b, rfl, rfl, rfl, _, _, _⟩ := hB.shapes
  obtain ⟨W, hW⟩ : ∃ W, W = ((w.alloc (.cells #[.int .i64 A.states, .slice a1a A.moves.length c1a, .slice a2a A.firsts.length c2a, .slice a3a A.ends.length c3a] 36)).alloc (.cells #[.int .i64 B.states, .slice a1b B.moves.length c1b, .slice a2b B.firsts.length c2b, .slice a3b B.ends.length c3b] 36)).alloc (.cells #[.int .i64 0, .slice none 0 0, .slice none 0 0, .slice none 0 0] 36) := ⟨_, rfl⟩
  have Hb0 : Hid (Below w.heap.size w W) := by rw [hW]; exact (((Below.refl _ _).alloc (Nat.le_refl _) _).alloc (by simp) _).alloc (by simp; omega) _
  have k0 : Hid (W.heap[w.heap.size]? = some (.cells #[.int .i64 A.states, .slice a1a A.moves.length c1a, .slice a2a A.firsts.length c2a, .slice a3a A.ends.length c3a] 36 (0, 0))) := by rw [hW]; exact blkOld (blkOld (blkNew _ _ rfl))
  have k1 : Hid (W.heap[w.heap.size + 1]? = some (.cells #[.int .i64 B.states, .slice a1b B.moves.length c1b, .slice a2b B.firsts.length c2b, .slice a3b B.ends.length c3b] 36 (0, 0))) := by rw [hW]; exact blkOld (blkNew _ _ (by simp))
  have k2 : Hid (W.heap[w.heap.size + 2]? = some (.cells #[.int .i64 0, .slice none 0 0, .slice none 0 0, .slice none 0 0] 36 (0, 0))) := by rw [hW]; exact blkNew _ _ (by simp)
  have hz : Hid (W.heap.size = w.heap.size + 3) := by rw [hW]; simp [Hid]
  have HA := Lib.hid hA; have HB := Lib.hid hB; clear hA hB
  have HW := Lib.hid hW; clear hW
  go_enter Try.func138, Try.ntmps138
  go_wp2_with fail
  rw [← HW.out]
  clear HW
  obtain ⟨c0, d1, d2, d3⟩ := blk4 k0.out
  go_wp2_with fail
  clear c0 d1 d2 d3
  refine (sNfaValid_c _ _ _ A W (HA.out.stay (kpB Hb0.out))).mono ?_
  rintro e w1 ⟨b1, rfl, hb, hv⟩
  replace Hb0 := Lib.hid (Hb0.out.trans (hb.mono Hb0.out.size))
  replace k0 := Lib.hid (blkBel hb k0.out)
  replace k1 := Lib.hid (blkBel hb k1.out)
  replace k2 := Lib.hid (blkBel hb k2.out)
  have hz1 := hb.size; clear hb
  cases b1
  · have HN := Lib.hid (jnN_no (A := A) (B := B) (fun h => hbF hv h.1)); have HBn := Lib.hid (jnB_no (A := A) (B := B) (fun h => hbF hv h.1)); clear hv
    obtain ⟨e0, e1, e2, e3⟩ := blk4 k2.out
    have g1 := blkFz k2.out
    go_wp2
    refine bodyPost_ret (v := .tuple #[.agg #[.int .i64 0, .slice none 0 0, .slice none 0 0, .slice none 0 0], .bool false]) (by simp [results, Try.results138, go_sem, e0, e1, e2, e3, g1]) rfl ⟨_, _, _, by rw [HN.out, HBn.out]; rfl, bel4 Hb0.out (by omega) _ _ _ _, by rw [HN.out]; exact NfaO.nil _ _⟩
  have HOA := Lib.hid (hbT hv); clear hv
  obtain ⟨c0, d1, d2, d3⟩ := blk4 k1.out
  go_wp2_with fail
  clear c0 d1 d2 d3
  refine (sNfaValid_c _ _ _ B w1 (HB.out.stay (kpB Hb0.out))).mono ?_
  rintro e w2 ⟨b1, rfl, hb, hv⟩
  replace Hb0 := Lib.hid (Hb0.out.trans (hb.mono Hb0.out.size))
  replace k0 := Lib.hid (blkBel hb k0.out)
  replace k1 := Lib.hid (blkBel hb k1.out)
  replace k2 := Lib.hid (blkBel hb k2.out)
  have hz2 := hb.size; clear hb
  cases b1
  · have HN := Lib.hid (jnN_no (A := A) (B := B) (fun h => hbF hv h.2)); have HBn := Lib.hid (jnB_no (A := A) (B := B) (fun h => hbF hv h.2)); clear hv
    obtain ⟨e0, e1, e2, e3⟩ := blk4 k2.out
    have g1 := blkFz k2.out
    go_wp2
    refine bodyPost_ret (v := .tuple #[.agg #[.int .i64 0, .slice none 0 0, .slice none 0 0, .slice none 0 0], .bool false]) (by simp [results, Try.results138, go_sem, e0, e1, e2, e3, g1]) rfl ⟨_, _, _, by rw [HN.out, HBn.out]; rfl, bel4 Hb0.out (by omega) _ _ _ _, by rw [HN.out]; exact NfaO.nil _ _⟩
  have HOB := Lib.hid (hbT hv); clear hv
  have HN := Lib.hid (jnN_yes HOA.out HOB.out); have HBn := Lib.hid (jnB_yes HOA.out HOB.out)
  obtain ⟨c0, d1, d2, d3⟩ := blk4 k0.out
  obtain ⟨c0', d1', d2', d3'⟩ := blk4 k1.out
  have hsA := Lib.hid HOA.out.1
  go_wp2_with fail
  clear c0 d1 d2 d3 c0' d1' d2' d3'
  refine (l13Shift_c _ _ _ B A.states w2 (HB.out.stay (kpB Hb0.out)) HOB.out hsA.out).mono ?_
  rintro e w3 ⟨vm, vf, ve, rfl, hb, ho⟩
  have hz3 : w.heap.size ≤ w2.heap.size := Hb0.out.size
  obtain ⟨X, hX⟩ : ∃ X, X = shD B A.states := ⟨_, rfl⟩
  rw [← hX] at ho ⊢
  have HX := Lib.hid hX; clear hX
  have HO := Lib.hid (ho.out.base (base' := w.heap.size) hz3); clear ho
  obtain ⟨a1x, c1x, a2x, c2x, a3x, c3x, rfl, rfl, rfl, _, _, _⟩ := HO.out.w.rd.shapes
  obtain ⟨W, hW⟩ : ∃ W, W = w3.alloc (.cells #[.int .i64 X.states, .slice a1x X.moves.length c1x, .slice a2x X.firsts.length c2x, .slice a3x X.ends.length c3x] 36) := ⟨_, rfl⟩
  have hbW : Below w3.heap.size w3 W := by rw [hW]; exact (Below.refl _ _).alloc (Nat.le_refl _) _
  obtain ⟨bx, hbx⟩ : ∃ bx, bx = w3.heap.size := ⟨_, rfl⟩
  have kx : Hid (W.heap[bx]? = some (.cells #[.int .i64 X.states, .slice a1x X.moves.length c1x, .slice a2x X.firsts.length c2x, .slice a3x X.ends.length c3x] 36 (0, 0))) := by rw [hW, hbx]; exact blkNew _ _ rfl
  have hbel : Below w2.heap.size w2 W := hb.trans (hbW.mono hb.size)
  replace Hb0 := Lib.hid (Hb0.out.trans (hbel.mono hz3))
  replace k0 := Lib.hid (blkBel hbel k0.out)
  replace k2 := Lib.hid (blkBel hbel k2.out)
  replace HO := Lib.hid (HO.out.stay hbW)
  have HWz : Hid (w.heap.size + 2 < bx ∧ bx < W.heap.size) := Lib.hid ⟨by have h1 := hb.size; have h2 := hz.out; rw [hbx]; omega, (Array.getElem?_eq_some_iff.1 kx.out).1⟩
  have HW := Lib.hid hW
  have Hbx := Lib.hid hbx
  clear hW hbW hbel hb k1 hbx
  have HLA := Lib.hid (okN_len HOA.out)
  have HLX : Hid (X.moves.length ≤ 400 ∧ X.firsts.length ≤ 40 ∧ X.ends.length ≤ 40) := Lib.hid (by have := okN_len HOB.out; rw [HX.out]; unfold shD; simpa using this)
  have HA3 := Lib.hid (HA.out.stay (kpB Hb0.out))
  obtain ⟨mx, HMX⟩ : ∃ mx, Hid (A.moves ++ X.moves = mx) := ⟨_, rfl⟩
  have HMXL : Hid (A.moves.length + X.moves.length = mx.length) := Lib.hid (by rw [← HMX.out, List.length_append])
  go_wp2_with (rw [← HW.out])
  rw [← Hbx.out]
  clear HW Hbx
  have HK : Hid (∀ w', Below W.heap.size W w' → (w'.cell? ⟨w.heap.size, 0, none⟩ = some (.int .i64 A.states) ∧ w'.cell? ⟨w.heap.size, 1, none⟩ = some (.slice a1a A.moves.length c1a) ∧ w'.cell? ⟨w.heap.size, 2, none⟩ = some (.slice a2a A.firsts.length c2a) ∧ w'.cell? ⟨w.heap.size, 3, none⟩ = some (.slice a3a A.ends.length c3a)) ∧
      (w'.cell? ⟨bx, 0, none⟩ = some (.int .i64 X.states) ∧ w'.cell? ⟨bx, 1, none⟩ = some (.slice a1x X.moves.length c1x) ∧ w'.cell? ⟨bx, 2, none⟩ = some (.slice a2x X.firsts.length c2x) ∧ w'.cell? ⟨bx, 3, none⟩ = some (.slice a3x X.ends.length c3x))) := fun w' hb => ⟨blk4 (blkBel hb k0.out), blk4 (blkBel hb kx.out)⟩
  refine wp_region_inv2 [(1, 0), (4, 3), (5, 2), (5, 4), (7, 6), (8, 5), (8, 7), (11, 10), (12, 9), (12, 11), (14, 13), (15, 1), (15, 8), (15, 12), (15, 14), (17, 0), (17, 1), (17, 2), (17, 3), (17, 4), (17, 5), (17, 6), (17, 7), (17, 8), (17, 9), (17, 10), (17, 11), (17, 12), (17, 13), (17, 14), (17, 15), (17, 16)] (fun listed a w' => ∃ (vb : Vb) (vx : Vx) (vr : Vr), listed = #[vb.b0, vb.b1, vb.b2, vb.b3, vb.b4, vb.b5, vb.b6, vb.b7, vb.b8, vb.b9, vb.b10, vb.b11, vb.b12, vb.b13, vb.b14, vb.b15, vb.b16, vb.b17] ∧ a = { tmps := #[Value.agg #[Value.int IntKind.i64 A.states, Value.slice a1a A.moves.length c1a, Value.slice a2a A.firsts.length c2a, Value.slice a3a A.ends.length c3a], Value.agg #[Value.int IntKind.i64 B.states, Value.slice a1b B.moves.length c1b, Value.slice a2b B.firsts.length c2b, Value.slice a3b B.ends.length c3b], Value.pointer (some { block := w.heap.size, off := 0 }), Value.pointer (some { block := w.heap.size + 1, off := 0 }), Value.pointer (some { block := w.heap.size + 1 + 1, off := 0 }), Value.bool false, Value.pointer (some { block := bx, off := 0 }), vx.x0, undef, undef, Value.agg #[Value.int IntKind.i64 A.states, Value.slice a1a A.moves.length c1a, Value.slice a2a A.firsts.length c2a, Value.slice a3a A.ends.length c3a], Value.bool true, Value.bool false, Value.bool false, Value.agg #[Value.int IntKind.i64 B.states, Value.slice a1b B.moves.length c1b, Value.slice a2b B.firsts.length c2b, Value.slice a3b B.ends.length c3b], Value.bool true, Value.bool false, Value.bool false, undef, Value.agg #[Value.int IntKind.i64 B.states, Value.slice a1b B.moves.length c1b, Value.slice a2b B.firsts.length c2b, Value.slice a3b B.ends.length c3b], Value.pointer (some { block := w.heap.size, off := 0 }), Value.int IntKind.i64 A.states, Value.agg #[Value.int IntKind.i64 X.states, Value.slice a1x X.moves.length c1x, Value.slice a2x X.firsts.length c2x, Value.slice a3x X.ends.length c3x], cond vb.b0 (.pointer (some ⟨bx, 0, none⟩)) (undef), cond vb.b1 (.int .i64 X.states) (undef), vx.x1, cond vb.b3 (.pointer (some ⟨w.heap.size, 1, none⟩)) (undef), cond vb.b4 (.slice a1a A.moves.length c1a) (undef), vx.x2, cond vb.b6 (.pointer (some ⟨bx, 1, none⟩)) (undef), cond vb.b7 (.slice a1x X.moves.length c1x) (undef), vx.x3, vx.x4, cond vb.b10 (.pointer (some ⟨w.heap.size, 2, none⟩)) (undef), cond vb.b11 (.slice a2a A.firsts.length c2a) (undef), vx.x5, cond vb.b13 (.pointer (some ⟨bx, 3, none⟩)) (undef), cond vb.b14 (.slice a3x X.ends.length c3x) (undef), cond vb.b15 (.agg #[.int .i64 X.states, vx.x3, vx.x5, .slice a3x X.ends.length c3x]) (undef), undef, undef, undef, undef, undef, undef, undef, undef, undef, undef, undef, undef, undef, undef, undef, undef, undef, undef, undef, undef, undef, undef, undef, undef, undef, undef, undef, undef, undef, undef, undef, undef, undef, undef], defers := [] } ∧ Hid ((vb.b2 = false → vr.r0 = none) ∧ (vb.b2 = true → ∃ (g : Nat) (c : Nat), vx.x1 = .slice (some ⟨g, 0, none⟩) (0) c ∧ (vb.b5 = false → vr.r0 = some ⟨40, 3, vx.x1, 0, []⟩)) ∧ (vb.b5 = true → ∃ (g : Nat) (c : Nat), vx.x2 = .slice (some ⟨g, 0, none⟩) (A.moves.length) c ∧ (vb.b8 = false → vr.r0 = some ⟨40, 3, vx.x2, A.moves.length, cells3 A.moves⟩)) ∧ (vb.b8 = true → ∃ (g : Nat) (c : Nat), vx.x3 = .slice (some ⟨g, 0, none⟩) (mx.length) c ∧ vr.r0 = some ⟨40, 3, vx.x3, mx.length, cells3 mx⟩) ∧ (vb.b9 = false → vr.r1 = none) ∧ (vb.b9 = true → ∃ (g : Nat) (c : Nat), vx.x4 = .slice (some ⟨g, 0, none⟩) (0) c ∧ (vb.b12 = false → vr.r1 = some ⟨3, 1, vx.x4, 0, []⟩)) ∧ (vb.b12 = true → ∃ (g : Nat) (c : Nat), vx.x5 = .slice (some ⟨g, 0, none⟩) (A.firsts.length) c ∧ vr.r1 = some ⟨3, 1, vx.x5, A.firsts.length, A.firsts.map (.int .i64 ·)⟩) ∧ (vb.b16 = false → vr.h = none) ∧ (vb.b16 = true → vb.b17 = false → ∃ g : Nat, vx.x0 = .pointer (some ⟨g, 0, none⟩) ∧ vr.h = some (g, .cells #[.int .i64 0, .slice none 0 0, .slice none 0 0, .slice none 0 0] 36 (0, 0))) ∧ (vb.b17 = true → ∃ (g : Nat) (vm vf : Value), vx.x0 = .pointer (some ⟨g, 0, none⟩) ∧ W.heap.size ≤ g ∧ NSx W w' g w.heap.size X.states vm vf (.slice a3x X.ends.length c3x) mx A.firsts X.ends ∧ w'.heap[w.heap.size]? = some (.cells #[.int .i64 A.states, .slice a1a A.moves.length c1a, .slice a2a A.firsts.length c2a, .slice a3a A.ends.length c3a] 36 (0, 0)) ∧ w'.heap[bx]? = some (.cells #[.int .i64 X.states, .slice a1x X.moves.length c1x, .slice a2x X.firsts.length c2x, .slice a3x X.ends.length c3x] 36 (0, 0)) ∧ w'.heap[w.heap.size + 2]? = some (.cells #[.int .i64 0, .slice none 0 0, .slice none 0 0, .slice none 0 0] 36 (0, 0))) ∧ (vb.b17 = false → Sr W w' vr.h [vr.r0, vr.r1]))) (fun G => ∀ (x7 x25 x28 x31 x32 x35 : Value) (w' : World), (∃ (g : Nat) (vm vf : Value), x7 = .pointer (some ⟨g, 0, none⟩) ∧ W.heap.size ≤ g ∧ NSx W w' g w.heap.size X.states vm vf (.slice a3x X.ends.length c3x) mx A.firsts X.ends ∧ w'.heap[w.heap.size]? = some (.cells #[.int .i64 A.states, .slice a1a A.moves.length c1a, .slice a2a A.firsts.length c2a, .slice a3a A.ends.length c3a] 36 (0, 0)) ∧ w'.heap[bx]? = some (.cells #[.int .i64 X.states, .slice a1x X.moves.length c1x, .slice a2x X.firsts.length c2x, .slice a3x X.ends.length c3x] 36 (0, 0)) ∧ w'.heap[w.heap.size + 2]? = some (.cells #[.int .i64 0, .slice none 0 0, .slice none 0 0, .slice none 0 0] 36 (0, 0))) → G { tmps := #[Value.agg #[Value.int IntKind.i64 A.states, Value.slice a1a A.moves.length c1a, Value.slice a2a A.firsts.length c2a, Value.slice a3a A.ends.length c3a], Value.agg #[Value.int IntKind.i64 B.states, Value.slice a1b B.moves.length c1b, Value.slice a2b B.firsts.length c2b, Value.slice a3b B.ends.length c3b], Value.pointer (some { block := w.heap.size, off := 0 }), Value.pointer (some { block := w.heap.size + 1, off := 0 }), Value.pointer (some { block := w.heap.size + 1 + 1, off := 0 }), Value.bool false, Value.pointer (some { block := bx, off := 0 }), x7, undef, undef, Value.agg #[Value.int IntKind.i64 A.states, Value.slice a1a A.moves.length c1a, Value.slice a2a A.firsts.length c2a, Value.slice a3a A.ends.length c3a], Value.bool true, Value.bool false, Value.bool false, Value.agg #[Value.int IntKind.i64 B.states, Value.slice a1b B.moves.length c1b, Value.slice a2b B.firsts.length c2b, Value.slice a3b B.ends.length c3b], Value.bool true, Value.bool false, Value.bool false, undef, Value.agg #[Value.int IntKind.i64 B.states, Value.slice a1b B.moves.length c1b, Value.slice a2b B.firsts.length c2b, Value.slice a3b B.ends.length c3b], Value.pointer (some { block := w.heap.size, off := 0 }), Value.int IntKind.i64 A.states, Value.agg #[Value.int IntKind.i64 X.states, Value.slice a1x X.moves.length c1x, Value.slice a2x X.firsts.length c2x, Value.slice a3x X.ends.length c3x], .pointer (some ⟨bx, 0, none⟩), .int .i64 X.states, x25, .pointer (some ⟨w.heap.size, 1, none⟩), .slice a1a A.moves.length c1a, x28, .pointer (some ⟨bx, 1, none⟩), .slice a1x X.moves.length c1x, x31, x32, .pointer (some ⟨w.heap.size, 2, none⟩), .slice a2a A.firsts.length c2a, x35, .pointer (some ⟨bx, 3, none⟩), .slice a3x X.ends.length c3x, .agg #[.int .i64 X.states, x31, x35, .slice a3x X.ends.length c3x], undef, undef, undef, undef, undef, undef, undef, undef, undef, undef, undef, undef, undef, undef, undef, undef, undef, undef, undef, undef, undef, undef, undef, undef, undef, undef, undef, undef, undef, undef, undef, undef, undef, undef], defers := [] } w') (by kernel_rfl) (by kernel_rfl) (by kernel_rfl) (by kernel_rfl) ?_ ?_ ?_ ?_
  · exact ⟨⟨false, false, false, false, false, false, false, false, false, false, false, false, false, false, false, false, false, false, false, false, false, false, false, false, false, false, false, false, false, false, false, false⟩, ⟨undef, undef, undef, undef, undef, undef, undef, undef, undef, undef, undef, undef, undef, undef, undef, undef⟩, ⟨none, none, none, none, none, none, none, none, none⟩, rfl, rfl, Lib.hid ⟨fun _ => rfl, nofun, nofun, nofun, fun _ => rfl, nofun, nofun, fun _ => rfl, nofun, nofun, fun _ => Sr.start W 2⟩⟩
  · refine StepsU.cons ?_ ?_
    · intro Q E0 listed a w' hI hM hk haft K hK
      obtain ⟨⟨b0, b1, b2, b3, b4, b5, b6, b7, b8, b9, b10, b11, b12, b13, b14, b15, b16, b17, b18_, b19_, b20_, b21_, b22_, b23_, b24_, b25_, b26_, b27_, b28_, b29_, b30_, b31_⟩, ⟨x7, x25, x28, x31, x32, x35, xx6_, xx7_, xx8_, xx9_, xx10_, xx11_, xx12_, xx13_, xx14_, xx15_⟩, ⟨hh, r0, r1, r2, r3, r4, r5, r6, r7⟩, hl, ha, HF⟩ := hI
      dsimp only at hl ha HF
      subst hl; subst ha
      obtain ⟨N0, P0_0, P0_1, P0_2, N1, P1_0, P1_1, NH, PH, Z, HS⟩ := HF.out
      clear HF
      have hk' : b0 = false := hk
      subst hk'
      clear hk
      obtain rfl : b1 = false := by cases b1 with | false => rfl | true => exact absurd (hM 1 0 rfl rfl) Bool.false_ne_true
      obtain rfl : b15 = false := by cases b15 with | false => rfl | true => exact absurd (hM 15 1 rfl rfl) Bool.false_ne_true
      obtain rfl : b17 = false := by cases b17 with | false => rfl | true => exact absurd (hM 17 0 rfl rfl) Bool.false_ne_true
      clear haft
      have hSr := HS rfl
      have hBl := hSr.bel
      obtain ⟨⟨q0, q1, q2, q3⟩, ⟨p0, p1, p2, p3⟩⟩ := HK.out w' hBl
      go_simp
      exact hK _ _ ⟨⟨true, false, b2, b3, b4, b5, b6, b7, b8, b9, b10, b11, b12, b13, b14, false, b16, false, false, false, false, false, false, false, false, false, false, false, false, false, false, false⟩, ⟨x7, x25, x28, x31, x32, x35, undef, undef, undef, undef, undef, undef, undef, undef, undef, undef⟩, ⟨hh, r0, r1, none, none, none, none, none, none⟩, rfl, rfl, Lib.hid ⟨N0, P0_0, P0_1, P0_2, N1, P1_0, P1_1, NH, PH, nofun, fun _ => hSr⟩⟩
    refine StepsU.cons ?_ ?_
    · intro Q E0 listed a w' hI hM hk haft K hK
      obtain ⟨⟨b0, b1, b2, b3, b4, b5, b6, b7, b8, b9, b10, b11, b12, b13, b14, b15, b16, b17, b18_, b19_, b20_, b21_, b22_, b23_, b24_, b25_, b26_, b27_, b28_, b29_, b30_, b31_⟩, ⟨x7, x25, x28, x31, x32, x35, xx6_, xx7_, xx8_, xx9_, xx10_, xx11_, xx12_, xx13_, xx14_, xx15_⟩, ⟨hh, r0, r1, r2, r3, r4, r5, r6, r7⟩, hl, ha, HF⟩ := hI
      dsimp only at hl ha HF
      subst hl; subst ha
      obtain ⟨N0, P0_0, P0_1, P0_2, N1, P1_0, P1_1, NH, PH, Z, HS⟩ := HF.out
      clear HF
      have hk' : b1 = false := hk
      subst hk'
      clear hk
      obtain rfl : b15 = false := by cases b15 with | false => rfl | true => exact absurd (hM 15 1 rfl rfl) Bool.false_ne_true
      obtain rfl : b17 = false := by cases b17 with | false => rfl | true => exact absurd (hM 17 1 rfl rfl) Bool.false_ne_true
      obtain rfl : b0 = true := haft ⟨0, .data⟩ (by simp) rfl
      clear haft
      have hSr := HS rfl
      have hBl := hSr.bel
      obtain ⟨⟨q0, q1, q2, q3⟩, ⟨p0, p1, p2, p3⟩⟩ := HK.out w' hBl
      go_simp
      exact hK _ _ ⟨⟨true, true, b2, b3, b4, b5, b6, b7, b8, b9, b10, b11, b12, b13, b14, false, b16, false, false, false, false, false, false, false, false, false, false, false, false, false, false, false⟩, ⟨x7, x25, x28, x31, x32, x35, undef, undef, undef, undef, undef, undef, undef, undef, undef, undef⟩, ⟨hh, r0, r1, none, none, none, none, none, none⟩, rfl, rfl, Lib.hid ⟨N0, P0_0, P0_1, P0_2, N1, P1_0, P1_1, NH, PH, nofun, fun _ => hSr⟩⟩
    refine StepsU.cons ?_ ?_
    · intro Q E0 listed a w' hI hM hk haft K hK
      obtain ⟨⟨b0, b1, b2, b3, b4, b5, b6, b7, b8, b9, b10, b11, b12, b13, b14, b15, b16, b17, b18_, b19_, b20_, b21_, b22_, b23_, b24_, b25_, b26_, b27_, b28_, b29_, b30_, b31_⟩, ⟨x7, x25, x28, x31, x32, x35, xx6_, xx7_, xx8_, xx9_, xx10_, xx11_, xx12_, xx13_, xx14_, xx15_⟩, ⟨hh, r0, r1, r2, r3, r4, r5, r6, r7⟩, hl, ha, HF⟩ := hI
      dsimp only at hl ha HF
      subst hl; subst ha
      obtain ⟨N0, P0_0, P0_1, P0_2, N1, P1_0, P1_1, NH, PH, Z, HS⟩ := HF.out
      clear HF
      have hk' : b2 = false := hk
      subst hk'
      clear hk
      obtain rfl : b5 = false := by cases b5 with | false => rfl | true => exact absurd (hM 5 2 rfl rfl) Bool.false_ne_true
      obtain rfl : b8 = false := by cases b8 with | false => rfl | true => exact absurd (hM 8 5 rfl rfl) Bool.false_ne_true
      obtain rfl : b15 = false := by cases b15 with | false => rfl | true => exact absurd (hM 15 8 rfl rfl) Bool.false_ne_true
      obtain rfl : b17 = false := by cases b17 with | false => rfl | true => exact absurd (hM 17 2 rfl rfl) Bool.false_ne_true
      clear haft
      have hSr := HS rfl
      have hBl := hSr.bel
      obtain ⟨⟨q0, q1, q2, q3⟩, ⟨p0, p1, p2, p3⟩⟩ := HK.out w' hBl
      obtain rfl := N0 rfl
      go_simp
      exact hK _ _ ⟨⟨b0, b1, true, b3, b4, false, b6, b7, false, b9, b10, b11, b12, b13, b14, false, b16, false, false, false, false, false, false, false, false, false, false, false, false, false, false, false⟩, ⟨x7, .slice (some ⟨w'.heap.size, 0, none⟩) 0 0, x28, x31, x32, x35, undef, undef, undef, undef, undef, undef, undef, undef, undef, undef⟩, ⟨hh, some ⟨40, 3, .slice (some ⟨w'.heap.size, 0, none⟩) 0 0, 0, []⟩, r1, none, none, none, none, none, none⟩, rfl, rfl, Lib.hid ⟨nofun, fun _ => ⟨w'.heap.size, 0, rfl, fun _ => rfl⟩, nofun, nofun, N1, P1_0, P1_1, NH, PH, nofun, fun _ => Sr.call [] [r1] ⟨40, 3, .slice (some ⟨w'.heap.size, 0, none⟩) 0 0, 0, []⟩ hSr ((Below.refl _ _).alloc (Nat.le_refl _) _) (ownLit (n := 0) [] (Nat.le_refl _) (by omega) rfl)⟩⟩
    refine StepsU.cons ?_ ?_
    · intro Q E0 listed a w' hI hM hk haft K hK
      obtain ⟨⟨b0, b1, b2, b3, b4, b5, b6, b7, b8, b9, b10, b11, b12, b13, b14, b15, b16, b17, b18_, b19_, b20_, b21_, b22_, b23_, b24_, b25_, b26_, b27_, b28_, b29_, b30_, b31_⟩, ⟨x7, x25, x28, x31, x32, x35, xx6_, xx7_, xx8_, xx9_, xx10_, xx11_, xx12_, xx13_, xx14_, xx15_⟩, ⟨hh, r0, r1, r2, r3, r4, r5, r6, r7⟩, hl, ha, HF⟩ := hI
      dsimp only at hl ha HF
      subst hl; subst ha
      obtain ⟨N0, P0_0, P0_1, P0_2, N1, P1_0, P1_1, NH, PH, Z, HS⟩ := HF.out
      clear HF
      have hk' : b3 = false := hk
      subst hk'
      clear hk
      obtain rfl : b4 = false := by cases b4 with | false => rfl | true => exact absurd (hM 4 3 rfl rfl) Bool.false_ne_true
      obtain rfl : b5 = false := by cases b5 with | false => rfl | true => exact absurd (hM 5 4 rfl rfl) Bool.false_ne_true
      obtain rfl : b8 = false := by cases b8 with | false => rfl | true => exact absurd (hM 8 5 rfl rfl) Bool.false_ne_true
      obtain rfl : b15 = false := by cases b15 with | false => rfl | true => exact absurd (hM 15 8 rfl rfl) Bool.false_ne_true
      obtain rfl : b17 = false := by cases b17 with | false => rfl | true => exact absurd (hM 17 3 rfl rfl) Bool.false_ne_true
      clear haft
      have hSr := HS rfl
      have hBl := hSr.bel
      obtain ⟨⟨q0, q1, q2, q3⟩, ⟨p0, p1, p2, p3⟩⟩ := HK.out w' hBl
      go_simp
      exact hK _ _ ⟨⟨b0, b1, b2, true, false, false, b6, b7, false, b9, b10, b11, b12, b13, b14, false, b16, false, false, false, false, false, false, false, false, false, false, false, false, false, false, false⟩, ⟨x7, x25, x28, x31, x32, x35, undef, undef, undef, undef, undef, undef, undef, undef, undef, undef⟩, ⟨hh, r0, r1, none, none, none, none, none, none⟩, rfl, rfl, Lib.hid ⟨N0, P0_0, nofun, nofun, N1, P1_0, P1_1, NH, PH, nofun, fun _ => hSr⟩⟩
    refine StepsU.cons ?_ ?_
    · intro Q E0 listed a w' hI hM hk haft K hK
      obtain ⟨⟨b0, b1, b2, b3, b4, b5, b6, b7, b8, b9, b10, b11, b12, b13, b14, b15, b16, b17, b18_, b19_, b20_, b21_, b22_, b23_, b24_, b25_, b26_, b27_, b28_, b29_, b30_, b31_⟩, ⟨x7, x25, x28, x31, x32, x35, xx6_, xx7_, xx8_, xx9_, xx10_, xx11_, xx12_, xx13_, xx14_, xx15_⟩, ⟨hh, r0, r1, r2, r3, r4, r5, r6, r7⟩, hl, ha, HF⟩ := hI
      dsimp only at hl ha HF
      subst hl; subst ha
      obtain ⟨N0, P0_0, P0_1, P0_2, N1, P1_0, P1_1, NH, PH, Z, HS⟩ := HF.out
      clear HF
      have hk' : b4 = false := hk
      subst hk'
      clear hk
      obtain rfl : b5 = false := by cases b5 with | false => rfl | true => exact absurd (hM 5 4 rfl rfl) Bool.false_ne_true
      obtain rfl : b8 = false := by cases b8 with | false => rfl | true => exact absurd (hM 8 5 rfl rfl) Bool.false_ne_true
      obtain rfl : b15 = false := by cases b15 with | false => rfl | true => exact absurd (hM 15 8 rfl rfl) Bool.false_ne_true
      obtain rfl : b17 = false := by cases b17 with | false => rfl | true => exact absurd (hM 17 4 rfl rfl) Bool.false_ne_true
      obtain rfl : b3 = true := haft ⟨3, .data⟩ (by simp) rfl
      clear haft
      have hSr := HS rfl
      have hBl := hSr.bel
      obtain ⟨⟨q0, q1, q2, q3⟩, ⟨p0, p1, p2, p3⟩⟩ := HK.out w' hBl
      go_simp
      exact hK _ _ ⟨⟨b0, b1, b2, true, true, false, b6, b7, false, b9, b10, b11, b12, b13, b14, false, b16, false, false, false, false, false, false, false, false, false, false, false, false, false, false, false⟩, ⟨x7, x25, x28, x31, x32, x35, undef, undef, undef, undef, undef, undef, undef, undef, undef, undef⟩, ⟨hh, r0, r1, none, none, none, none, none, none⟩, rfl, rfl, Lib.hid ⟨N0, P0_0, nofun, nofun, N1, P1_0, P1_1, NH, PH, nofun, fun _ => hSr⟩⟩
    refine StepsU.cons ?_ ?_
    · intro Q E0 listed a w' hI hM hk haft K hK
      obtain ⟨⟨b0, b1, b2, b3, b4, b5, b6, b7, b8, b9, b10, b11, b12, b13, b14, b15, b16, b17, b18_, b19_, b20_, b21_, b22_, b23_, b24_, b25_, b26_, b27_, b28_, b29_, b30_, b31_⟩, ⟨x7, x25, x28, x31, x32, x35, xx6_, xx7_, xx8_, xx9_, xx10_, xx11_, xx12_, xx13_, xx14_, xx15_⟩, ⟨hh, r0, r1, r2, r3, r4, r5, r6, r7⟩, hl, ha, HF⟩ := hI
      dsimp only at hl ha HF
      subst hl; subst ha
      obtain ⟨N0, P0_0, P0_1, P0_2, N1, P1_0, P1_1, NH, PH, Z, HS⟩ := HF.out
      clear HF
      have hk' : b5 = false := hk
      subst hk'
      clear hk
      obtain rfl : b8 = false := by cases b8 with | false => rfl | true => exact absurd (hM 8 5 rfl rfl) Bool.false_ne_true
      obtain rfl : b15 = false := by cases b15 with | false => rfl | true => exact absurd (hM 15 8 rfl rfl) Bool.false_ne_true
      obtain rfl : b17 = false := by cases b17 with | false => rfl | true => exact absurd (hM 17 5 rfl rfl) Bool.false_ne_true
      obtain rfl : b2 = true := haft ⟨2, .data⟩ (by simp) rfl
      obtain rfl : b4 = true := haft ⟨4, .data⟩ (by simp) rfl
      obtain rfl : b3 = true := hM 4 3 rfl rfl
      clear haft
      obtain ⟨g2, c2, rfl, hr2⟩ := P0_0 rfl
      obtain rfl := hr2 rfl
      have hSr := HS rfl
      have hBl := hSr.bel
      obtain ⟨⟨q0, q1, q2, q3⟩, ⟨p0, p1, p2, p3⟩⟩ := HK.out w' hBl
      have hrow := hSr.own _ (List.mem_append_right [] (List.mem_cons_self ..))
      refine stepAppX elMove (by decide) rfl (.tmp 25) (.tmp 27) rfl W.heap.size g2 (0) c2 (A.moves.length) _ _ (cells3 A.moves) w' rfl rfl hrow ((HA3.out.1).stay (kpB hBl)) (by first | (rw [length_cells3]; omega) | simp) (cells3_one _) (by have := HLA.out; have := HLX.out; omega) hBl.size ?_
      intro g' c' w1 hoc hgc hat
      rw [Nat.zero_add] at hoc ⊢
      exact hK _ _ ⟨⟨b0, b1, true, true, true, true, b6, b7, false, b9, b10, b11, b12, b13, b14, false, b16, false, false, false, false, false, false, false, false, false, false, false, false, false, false, false⟩, ⟨x7, _, .slice (some ⟨g', 0, none⟩) (A.moves.length) c', x31, x32, x35, undef, undef, undef, undef, undef, undef, undef, undef, undef, undef⟩, ⟨hh, some ⟨40, 3, .slice (some ⟨g', 0, none⟩) (A.moves.length) c', A.moves.length, cells3 A.moves⟩, r1, none, none, none, none, none, none⟩, rfl, rfl, Lib.hid ⟨nofun, fun _ => ⟨_, _, rfl, nofun⟩, fun _ => ⟨g', c', rfl, fun _ => rfl⟩, nofun, N1, P1_0, P1_1, NH, PH, nofun, fun _ => Sr.grow [] [r1] ⟨40, 3, .slice (some ⟨g', 0, none⟩) (A.moves.length) c', A.moves.length, cells3 A.moves⟩ hSr rfl rfl hgc hoc hat⟩⟩
    refine StepsU.cons ?_ ?_
    · intro Q E0 listed a w' hI hM hk haft K hK
      obtain ⟨⟨b0, b1, b2, b3, b4, b5, b6, b7, b8, b9, b10, b11, b12, b13, b14, b15, b16, b17, b18_, b19_, b20_, b21_, b22_, b23_, b24_, b25_, b26_, b27_, b28_, b29_, b30_, b31_⟩, ⟨x7, x25, x28, x31, x32, x35, xx6_, xx7_, xx8_, xx9_, xx10_, xx11_, xx12_, xx13_, xx14_, xx15_⟩, ⟨hh, r0, r1, r2, r3, r4, r5, r6, r7⟩, hl, ha, HF⟩ := hI
      dsimp only at hl ha HF
      subst hl; subst ha
      obtain ⟨N0, P0_0, P0_1, P0_2, N1, P1_0, P1_1, NH, PH, Z, HS⟩ := HF.out
      clear HF
      have hk' : b6 = false := hk
      subst hk'
      clear hk
      obtain rfl : b7 = false := by cases b7 with | false => rfl | true => exact absurd (hM 7 6 rfl rfl) Bool.false_ne_true
      obtain rfl : b8 = false := by cases b8 with | false => rfl | true => exact absurd (hM 8 7 rfl rfl) Bool.false_ne_true
      obtain rfl : b15 = false := by cases b15 with | false => rfl | true => exact absurd (hM 15 8 rfl rfl) Bool.false_ne_true
      obtain rfl : b17 = false := by cases b17 with | false => rfl | true => exact absurd (hM 17 6 rfl rfl) Bool.false_ne_true
      clear haft
      have hSr := HS rfl
      have hBl := hSr.bel
      obtain ⟨⟨q0, q1, q2, q3⟩, ⟨p0, p1, p2, p3⟩⟩ := HK.out w' hBl
      go_simp
      exact hK _ _ ⟨⟨b0, b1, b2, b3, b4, b5, true, false, false, b9, b10, b11, b12, b13, b14, false, b16, false, false, false, false, false, false, false, false, false, false, false, false, false, false, false⟩, ⟨x7, x25, x28, x31, x32, x35, undef, undef, undef, undef, undef, undef, undef, undef, undef, undef⟩, ⟨hh, r0, r1, none, none, none, none, none, none⟩, rfl, rfl, Lib.hid ⟨N0, P0_0, P0_1, nofun, N1, P1_0, P1_1, NH, PH, nofun, fun _ => hSr⟩⟩
    refine StepsU.cons ?_ ?_
    · intro Q E0 listed a w' hI hM hk haft K hK
      obtain ⟨⟨b0, b1, b2, b3, b4, b5, b6, b7, b8, b9, b10, b11, b12, b13, b14, b15, b16, b17, b18_, b19_, b20_, b21_, b22_, b23_, b24_, b25_, b26_, b27_, b28_, b29_, b30_, b31_⟩, ⟨x7, x25, x28, x31, x32, x35, xx6_, xx7_, xx8_, xx9_, xx10_, xx11_, xx12_, xx13_, xx14_, xx15_⟩, ⟨hh, r0, r1, r2, r3, r4, r5, r6, r7⟩, hl, ha, HF⟩ := hI
      dsimp only at hl ha HF
      subst hl; subst ha
      obtain ⟨N0, P0_0, P0_1, P0_2, N1, P1_0, P1_1, NH, PH, Z, HS⟩ := HF.out
      clear HF
      have hk' : b7 = false := hk
      subst hk'
      clear hk
      obtain rfl : b8 = false := by cases b8 with | false => rfl | true => exact absurd (hM 8 7 rfl rfl) Bool.false_ne_true
      obtain rfl : b15 = false := by cases b15 with | false => rfl | true => exact absurd (hM 15 8 rfl rfl) Bool.false_ne_true
      obtain rfl : b17 = false := by cases b17 with | false => rfl | true => exact absurd (hM 17 7 rfl rfl) Bool.false_ne_true
      obtain rfl : b6 = true := haft ⟨6, .data⟩ (by simp) rfl
      clear haft
      have hSr := HS rfl
      have hBl := hSr.bel
      obtain ⟨⟨q0, q1, q2, q3⟩, ⟨p0, p1, p2, p3⟩⟩ := HK.out w' hBl
      go_simp
      exact hK _ _ ⟨⟨b0, b1, b2, b3, b4, b5, true, true, false, b9, b10, b11, b12, b13, b14, false, b16, false, false, false, false, false, false, false, false, false, false, false, false, false, false, false⟩, ⟨x7, x25, x28, x31, x32, x35, undef, undef, undef, undef, undef, undef, undef, undef, undef, undef⟩, ⟨hh, r0, r1, none, none, none, none, none, none⟩, rfl, rfl, Lib.hid ⟨N0, P0_0, P0_1, nofun, N1, P1_0, P1_1, NH, PH, nofun, fun _ => hSr⟩⟩
    refine StepsU.cons ?_ ?_
    · intro Q E0 listed a w' hI hM hk haft K hK
      obtain ⟨⟨b0, b1, b2, b3, b4, b5, b6, b7, b8, b9, b10, b11, b12, b13, b14, b15, b16, b17, b18_, b19_, b20_, b21_, b22_, b23_, b24_, b25_, b26_, b27_, b28_, b29_, b30_, b31_⟩, ⟨x7, x25, x28, x31, x32, x35, xx6_, xx7_, xx8_, xx9_, xx10_, xx11_, xx12_, xx13_, xx14_, xx15_⟩, ⟨hh, r0, r1, r2, r3, r4, r5, r6, r7⟩, hl, ha, HF⟩ := hI
      dsimp only at hl ha HF
      subst hl; subst ha
      obtain ⟨N0, P0_0, P0_1, P0_2, N1, P1_0, P1_1, NH, PH, Z, HS⟩ := HF.out
      clear HF
      have hk' : b8 = false := hk
      subst hk'
      clear hk
      obtain rfl : b15 = false := by cases b15 with | false => rfl | true => exact absurd (hM 15 8 rfl rfl) Bool.false_ne_true
      obtain rfl : b17 = false := by cases b17 with | false => rfl | true => exact absurd (hM 17 8 rfl rfl) Bool.false_ne_true
      obtain rfl : b5 = true := haft ⟨5, .data⟩ (by simp) rfl
      obtain rfl : b7 = true := haft ⟨7, .data⟩ (by simp) rfl
      obtain rfl : b2 = true := hM 5 2 rfl rfl
      obtain rfl : b4 = true := hM 5 4 rfl rfl
      obtain rfl : b6 = true := hM 7 6 rfl rfl
      obtain rfl : b3 = true := hM 4 3 rfl rfl
      clear haft
      obtain ⟨g5, c5, rfl, hr5⟩ := P0_1 rfl
      obtain rfl := hr5 rfl
      have hSr := HS rfl
      have hBl := hSr.bel
      obtain ⟨⟨q0, q1, q2, q3⟩, ⟨p0, p1, p2, p3⟩⟩ := HK.out w' hBl
      have hrow := hSr.own _ (List.mem_append_right [] (List.mem_cons_self ..))
      refine stepAppX elMove (by decide) rfl (.tmp 28) (.tmp 30) rfl W.heap.size g5 (A.moves.length) c5 (X.moves.length) _ _ (cells3 X.moves) w' rfl rfl hrow ((HO.out.w.rd.1).stay (kpB hBl)) (by first | (rw [length_cells3]; omega) | simp) (cells3_one _) (by have := HLA.out; have := HLX.out; omega) hBl.size ?_
      intro g' c' w1 hoc hgc hat
      rw [HMXL.out] at hoc ⊢
      rw [cells3_two, HMX.out] at hoc
      exact hK _ _ ⟨⟨b0, b1, true, true, true, true, true, true, true, b9, b10, b11, b12, b13, b14, false, b16, false, false, false, false, false, false, false, false, false, false, false, false, false, false, false⟩, ⟨x7, x25, _, .slice (some ⟨g', 0, none⟩) (mx.length) c', x32, x35, undef, undef, undef, undef, undef, undef, undef, undef, undef, undef⟩, ⟨hh, some ⟨40, 3, .slice (some ⟨g', 0, none⟩) (mx.length) c', mx.length, cells3 mx⟩, r1, none, none, none, none, none, none⟩, rfl, rfl, Lib.hid ⟨nofun, fun h => let ⟨g, c, e, _⟩ := P0_0 h; ⟨g, c, e, nofun⟩, fun _ => ⟨_, _, rfl, nofun⟩, fun _ => ⟨g', c', rfl, rfl⟩, N1, P1_0, P1_1, NH, PH, nofun, fun _ => Sr.grow [] [r1] ⟨40, 3, .slice (some ⟨g', 0, none⟩) (mx.length) c', mx.length, cells3 mx⟩ hSr rfl rfl hgc hoc hat⟩⟩
    refine StepsU.cons ?_ ?_
    · intro Q E0 listed a w' hI hM hk haft K hK
      obtain ⟨⟨b0, b1, b2, b3, b4, b5, b6, b7, b8, b9, b10, b11, b12, b13, b14, b15, b16, b17, b18_, b19_, b20_, b21_, b22_, b23_, b24_, b25_, b26_, b27_, b28_, b29_, b30_, b31_⟩, ⟨x7, x25, x28, x31, x32, x35, xx6_, xx7_, xx8_, xx9_, xx10_, xx11_, xx12_, xx13_, xx14_, xx15_⟩, ⟨hh, r0, r1, r2, r3, r4, r5, r6, r7⟩, hl, ha, HF⟩ := hI
      dsimp only at hl ha HF
      subst hl; subst ha
      obtain ⟨N0, P0_0, P0_1, P0_2, N1, P1_0, P1_1, NH, PH, Z, HS⟩ := HF.out
      clear HF
      have hk' : b9 = false := hk
      subst hk'
      clear hk
      obtain rfl : b12 = false := by cases b12 with | false => rfl | true => exact absurd (hM 12 9 rfl rfl) Bool.false_ne_true
      obtain rfl : b15 = false := by cases b15 with | false => rfl | true => exact absurd (hM 15 12 rfl rfl) Bool.false_ne_true
      obtain rfl : b17 = false := by cases b17 with | false => rfl | true => exact absurd (hM 17 9 rfl rfl) Bool.false_ne_true
      clear haft
      have hSr := HS rfl
      have hBl := hSr.bel
      obtain ⟨⟨q0, q1, q2, q3⟩, ⟨p0, p1, p2, p3⟩⟩ := HK.out w' hBl
      obtain rfl := N1 rfl
      go_simp
      exact hK _ _ ⟨⟨b0, b1, b2, b3, b4, b5, b6, b7, b8, true, b10, b11, false, b13, b14, false, b16, false, false, false, false, false, false, false, false, false, false, false, false, false, false, false⟩, ⟨x7, x25, x28, x31, .slice (some ⟨w'.heap.size, 0, none⟩) 0 0, x35, undef, undef, undef, undef, undef, undef, undef, undef, undef, undef⟩, ⟨hh, r0, some ⟨3, 1, .slice (some ⟨w'.heap.size, 0, none⟩) 0 0, 0, []⟩, none, none, none, none, none, none⟩, rfl, rfl, Lib.hid ⟨N0, P0_0, P0_1, P0_2, nofun, fun _ => ⟨w'.heap.size, 0, rfl, fun _ => rfl⟩, nofun, NH, PH, nofun, fun _ => Sr.call [r0] [] ⟨3, 1, .slice (some ⟨w'.heap.size, 0, none⟩) 0 0, 0, []⟩ hSr ((Below.refl _ _).alloc (Nat.le_refl _) _) (ownLit (n := 0) [] (Nat.le_refl _) (by omega) rfl)⟩⟩
    refine StepsU.cons ?_ ?_
    · intro Q E0 listed a w' hI hM hk haft K hK
      obtain ⟨⟨b0, b1, b2, b3, b4, b5, b6, b7, b8, b9, b10, b11, b12, b13, b14, b15, b16, b17, b18_, b19_, b20_, b21_, b22_, b23_, b24_, b25_, b26_, b27_, b28_, b29_, b30_, b31_⟩, ⟨x7, x25, x28, x31, x32, x35, xx6_, xx7_, xx8_, xx9_, xx10_, xx11_, xx12_, xx13_, xx14_, xx15_⟩, ⟨hh, r0, r1, r2, r3, r4, r5, r6, r7⟩, hl, ha, HF⟩ := hI
      dsimp only at hl ha HF
      subst hl; subst ha
      obtain ⟨N0, P0_0, P0_1, P0_2, N1, P1_0, P1_1, NH, PH, Z, HS⟩ := HF.out
      clear HF
      have hk' : b10 = false := hk
      subst hk'
      clear hk
      obtain rfl : b11 = false := by cases b11 with | false => rfl | true => exact absurd (hM 11 10 rfl rfl) Bool.false_ne_true
      obtain rfl : b12 = false := by cases b12 with | false => rfl | true => exact absurd (hM 12 11 rfl rfl) Bool.false_ne_true
      obtain rfl : b15 = false := by cases b15 with | false => rfl | true => exact absurd (hM 15 12 rfl rfl) Bool.false_ne_true
      obtain rfl : b17 = false := by cases b17 with | false => rfl | true => exact absurd (hM 17 10 rfl rfl) Bool.false_ne_true
      clear haft
      have hSr := HS rfl
      have hBl := hSr.bel
      obtain ⟨⟨q0, q1, q2, q3⟩, ⟨p0, p1, p2, p3⟩⟩ := HK.out w' hBl
      go_simp
      exact hK _ _ ⟨⟨b0, b1, b2, b3, b4, b5, b6, b7, b8, b9, true, false, false, b13, b14, false, b16, false, false, false, false, false, false, false, false, false, false, false, false, false, false, false⟩, ⟨x7, x25, x28, x31, x32, x35, undef, undef, undef, undef, undef, undef, undef, undef, undef, undef⟩, ⟨hh, r0, r1, none, none, none, none, none, none⟩, rfl, rfl, Lib.hid ⟨N0, P0_0, P0_1, P0_2, N1, P1_0, nofun, NH, PH, nofun, fun _ => hSr⟩⟩
    refine StepsU.cons ?_ ?_
    · intro Q E0 listed a w' hI hM hk haft K hK
      obtain ⟨⟨b0, b1, b2, b3, b4, b5, b6, b7, b8, b9, b10, b11, b12, b13, b14, b15, b16, b17, b18_, b19_, b20_, b21_, b22_, b23_, b24_, b25_, b26_, b27_, b28_, b29_, b30_, b31_⟩, ⟨x7, x25, x28, x31, x32, x35, xx6_, xx7_, xx8_, xx9_, xx10_, xx11_, xx12_, xx13_, xx14_, xx15_⟩, ⟨hh, r0, r1, r2, r3, r4, r5, r6, r7⟩, hl, ha, HF⟩ := hI
      dsimp only at hl ha HF
      subst hl; subst ha
      obtain ⟨N0, P0_0, P0_1, P0_2, N1, P1_0, P1_1, NH, PH, Z, HS⟩ := HF.out
      clear HF
      have hk' : b11 = false := hk
      subst hk'
      clear hk
      obtain rfl : b12 = false := by cases b12 with | false => rfl | true => exact absurd (hM 12 11 rfl rfl) Bool.false_ne_true
      obtain rfl : b15 = false := by cases b15 with | false => rfl | true => exact absurd (hM 15 12 rfl rfl) Bool.false_ne_true
      obtain rfl : b17 = false := by cases b17 with | false => rfl | true => exact absurd (hM 17 11 rfl rfl) Bool.false_ne_true
      obtain rfl : b10 = true := haft ⟨10, .data⟩ (by simp) rfl
      clear haft
      have hSr := HS rfl
      have hBl := hSr.bel
      obtain ⟨⟨q0, q1, q2, q3⟩, ⟨p0, p1, p2, p3⟩⟩ := HK.out w' hBl
      go_simp
      exact hK _ _ ⟨⟨b0, b1, b2, b3, b4, b5, b6, b7, b8, b9, true, true, false, b13, b14, false, b16, false, false, false, false, false, false, false, false, false, false, false, false, false, false, false⟩, ⟨x7, x25, x28, x31, x32, x35, undef, undef, undef, undef, undef, undef, undef, undef, undef, undef⟩, ⟨hh, r0, r1, none, none, none, none, none, none⟩, rfl, rfl, Lib.hid ⟨N0, P0_0, P0_1, P0_2, N1, P1_0, nofun, NH, PH, nofun, fun _ => hSr⟩⟩
    refine StepsU.cons ?_ ?_
    · intro Q E0 listed a w' hI hM hk haft K hK
      obtain ⟨⟨b0, b1, b2, b3, b4, b5, b6, b7, b8, b9, b10, b11, b12, b13, b14, b15, b16, b17, b18_, b19_, b20_, b21_, b22_, b23_, b24_, b25_, b26_, b27_, b28_, b29_, b30_, b31_⟩, ⟨x7, x25, x28, x31, x32, x35, xx6_, xx7_, xx8_, xx9_, xx10_, xx11_, xx12_, xx13_, xx14_, xx15_⟩, ⟨hh, r0, r1, r2, r3, r4, r5, r6, r7⟩, hl, ha, HF⟩ := hI
      dsimp only at hl ha HF
      subst hl; subst ha
      obtain ⟨N0, P0_0, P0_1, P0_2, N1, P1_0, P1_1, NH, PH, Z, HS⟩ := HF.out
      clear HF
      have hk' : b12 = false := hk
      subst hk'
      clear hk
      obtain rfl : b15 = false := by cases b15 with | false => rfl | true => exact absurd (hM 15 12 rfl rfl) Bool.false_ne_true
      obtain rfl : b17 = false := by cases b17 with | false => rfl | true => exact absurd (hM 17 12 rfl rfl) Bool.false_ne_true
      obtain rfl : b9 = true := haft ⟨9, .data⟩ (by simp) rfl
      obtain rfl : b11 = true := haft ⟨11, .data⟩ (by simp) rfl
      obtain rfl : b10 = true := hM 11 10 rfl rfl
      clear haft
      obtain ⟨g9, c9, rfl, hr9⟩ := P1_0 rfl
      obtain rfl := hr9 rfl
      have hSr := HS rfl
      have hBl := hSr.bel
      obtain ⟨⟨q0, q1, q2, q3⟩, ⟨p0, p1, p2, p3⟩⟩ := HK.out w' hBl
      have hrow := hSr.own _ (List.mem_append_right [r0] (List.mem_cons_self ..))
      refine stepAppX elInt (by decide) rfl (.tmp 32) (.tmp 34) rfl W.heap.size g9 (0) c9 (A.firsts.length) _ _ (A.firsts.map (.int .i64 ·)) w' rfl rfl hrow ((HA3.out.2.1).stay (kpB hBl)) (by first | (rw [length_cells3]; omega) | simp) (by simp [Value.oneCell']) (by have := HLA.out; have := HLX.out; omega) hBl.size ?_
      intro g' c' w1 hoc hgc hat
      rw [Nat.zero_add] at hoc ⊢
      exact hK _ _ ⟨⟨b0, b1, b2, b3, b4, b5, b6, b7, b8, true, true, true, true, b13, b14, false, b16, false, false, false, false, false, false, false, false, false, false, false, false, false, false, false⟩, ⟨x7, x25, x28, x31, _, .slice (some ⟨g', 0, none⟩) (A.firsts.length) c', undef, undef, undef, undef, undef, undef, undef, undef, undef, undef⟩, ⟨hh, r0, some ⟨3, 1, .slice (some ⟨g', 0, none⟩) (A.firsts.length) c', A.firsts.length, A.firsts.map (.int .i64 ·)⟩, none, none, none, none, none, none⟩, rfl, rfl, Lib.hid ⟨N0, P0_0, P0_1, P0_2, nofun, fun _ => ⟨_, _, rfl, nofun⟩, fun _ => ⟨g', c', rfl, rfl⟩, NH, PH, nofun, fun _ => Sr.grow [r0] [] ⟨3, 1, .slice (some ⟨g', 0, none⟩) (A.firsts.length) c', A.firsts.length, A.firsts.map (.int .i64 ·)⟩ hSr rfl rfl hgc hoc hat⟩⟩
    refine StepsU.cons ?_ ?_
    · intro Q E0 listed a w' hI hM hk haft K hK
      obtain ⟨⟨b0, b1, b2, b3, b4, b5, b6, b7, b8, b9, b10, b11, b12, b13, b14, b15, b16, b17, b18_, b19_, b20_, b21_, b22_, b23_, b24_, b25_, b26_, b27_, b28_, b29_, b30_, b31_⟩, ⟨x7, x25, x28, x31, x32, x35, xx6_, xx7_, xx8_, xx9_, xx10_, xx11_, xx12_, xx13_, xx14_, xx15_⟩, ⟨hh, r0, r1, r2, r3, r4, r5, r6, r7⟩, hl, ha, HF⟩ := hI
      dsimp only at hl ha HF
      subst hl; subst ha
      obtain ⟨N0, P0_0, P0_1, P0_2, N1, P1_0, P1_1, NH, PH, Z, HS⟩ := HF.out
      clear HF
      have hk' : b13 = false := hk
      subst hk'
      clear hk
      obtain rfl : b14 = false := by cases b14 with | false => rfl | true => exact absurd (hM 14 13 rfl rfl) Bool.false_ne_true
      obtain rfl : b15 = false := by cases b15 with | false => rfl | true => exact absurd (hM 15 14 rfl rfl) Bool.false_ne_true
      obtain rfl : b17 = false := by cases b17 with | false => rfl | true => exact absurd (hM 17 13 rfl rfl) Bool.false_ne_true
      clear haft
      have hSr := HS rfl
      have hBl := hSr.bel
      obtain ⟨⟨q0, q1, q2, q3⟩, ⟨p0, p1, p2, p3⟩⟩ := HK.out w' hBl
      go_simp
      exact hK _ _ ⟨⟨b0, b1, b2, b3, b4, b5, b6, b7, b8, b9, b10, b11, b12, true, false, false, b16, false, false, false, false, false, false, false, false, false, false, false, false, false, false, false⟩, ⟨x7, x25, x28, x31, x32, x35, undef, undef, undef, undef, undef, undef, undef, undef, undef, undef⟩, ⟨hh, r0, r1, none, none, none, none, none, none⟩, rfl, rfl, Lib.hid ⟨N0, P0_0, P0_1, P0_2, N1, P1_0, P1_1, NH, PH, nofun, fun _ => hSr⟩⟩
    refine StepsU.cons ?_ ?_
    · intro Q E0 listed a w' hI hM hk haft K hK
      obtain ⟨⟨b0, b1, b2, b3, b4, b5, b6, b7, b8, b9, b10, b11, b12, b13, b14, b15, b16, b17, b18_, b19_, b20_, b21_, b22_, b23_, b24_, b25_, b26_, b27_, b28_, b29_, b30_, b31_⟩, ⟨x7, x25, x28, x31, x32, x35, xx6_, xx7_, xx8_, xx9_, xx10_, xx11_, xx12_, xx13_, xx14_, xx15_⟩, ⟨hh, r0, r1, r2, r3, r4, r5, r6, r7⟩, hl, ha, HF⟩ := hI
      dsimp only at hl ha HF
      subst hl; subst ha
      obtain ⟨N0, P0_0, P0_1, P0_2, N1, P1_0, P1_1, NH, PH, Z, HS⟩ := HF.out
      clear HF
      have hk' : b14 = false := hk
      subst hk'
      clear hk
      obtain rfl : b15 = false := by cases b15 with | false => rfl | true => exact absurd (hM 15 14 rfl rfl) Bool.false_ne_true
      obtain rfl : b17 = false := by cases b17 with | false => rfl | true => exact absurd (hM 17 14 rfl rfl) Bool.false_ne_true
      obtain rfl : b13 = true := haft ⟨13, .data⟩ (by simp) rfl
      clear haft
      have hSr := HS rfl
      have hBl := hSr.bel
      obtain ⟨⟨q0, q1, q2, q3⟩, ⟨p0, p1, p2, p3⟩⟩ := HK.out w' hBl
      go_simp
      exact hK _ _ ⟨⟨b0, b1, b2, b3, b4, b5, b6, b7, b8, b9, b10, b11, b12, true, true, false, b16, false, false, false, false, false, false, false, false, false, false, false, false, false, false, false⟩, ⟨x7, x25, x28, x31, x32, x35, undef, undef, undef, undef, undef, undef, undef, undef, undef, undef⟩, ⟨hh, r0, r1, none, none, none, none, none, none⟩, rfl, rfl, Lib.hid ⟨N0, P0_0, P0_1, P0_2, N1, P1_0, P1_1, NH, PH, nofun, fun _ => hSr⟩⟩
    refine StepsU.cons ?_ ?_
    · intro Q E0 listed a w' hI hM hk haft K hK
      obtain ⟨⟨b0, b1, b2, b3, b4, b5, b6, b7, b8, b9, b10, b11, b12, b13, b14, b15, b16, b17, b18_, b19_, b20_, b21_, b22_, b23_, b24_, b25_, b26_, b27_, b28_, b29_, b30_, b31_⟩, ⟨x7, x25, x28, x31, x32, x35, xx6_, xx7_, xx8_, xx9_, xx10_, xx11_, xx12_, xx13_, xx14_, xx15_⟩, ⟨hh, r0, r1, r2, r3, r4, r5, r6, r7⟩, hl, ha, HF⟩ := hI
      dsimp only at hl ha HF
      subst hl; subst ha
      obtain ⟨N0, P0_0, P0_1, P0_2, N1, P1_0, P1_1, NH, PH, Z, HS⟩ := HF.out
      clear HF
      have hk' : b15 = false := hk
      subst hk'
      clear hk
      obtain rfl : b17 = false := by cases b17 with | false => rfl | true => exact absurd (hM 17 15 rfl rfl) Bool.false_ne_true
      obtain rfl : b1 = true := haft ⟨1, .data⟩ (by simp) rfl
      obtain rfl : b8 = true := haft ⟨8, .data⟩ (by simp) rfl
      obtain rfl : b12 = true := haft ⟨12, .data⟩ (by simp) rfl
      obtain rfl : b14 = true := haft ⟨14, .data⟩ (by simp) rfl
      obtain rfl : b0 = true := hM 1 0 rfl rfl
      obtain rfl : b5 = true := hM 8 5 rfl rfl
      obtain rfl : b7 = true := hM 8 7 rfl rfl
      obtain rfl : b9 = true := hM 12 9 rfl rfl
      obtain rfl : b11 = true := hM 12 11 rfl rfl
      obtain rfl : b13 = true := hM 14 13 rfl rfl
      obtain rfl : b2 = true := hM 5 2 rfl rfl
      obtain rfl : b4 = true := hM 5 4 rfl rfl
      obtain rfl : b6 = true := hM 7 6 rfl rfl
      obtain rfl : b10 = true := hM 11 10 rfl rfl
      obtain rfl : b3 = true := hM 4 3 rfl rfl
      clear haft
      obtain ⟨g8, c8, rfl, rfl⟩ := P0_2 rfl
      obtain ⟨g12, c12, rfl, rfl⟩ := P1_1 rfl
      have hSr := HS rfl
      have hBl := hSr.bel
      obtain ⟨⟨q0, q1, q2, q3⟩, ⟨p0, p1, p2, p3⟩⟩ := HK.out w' hBl
      go_simp
      exact hK _ _ ⟨⟨true, true, true, true, true, true, true, true, true, true, true, true, true, true, true, true, b16, false, false, false, false, false, false, false, false, false, false, false, false, false, false, false⟩, ⟨x7, x25, x28, _, x32, _, undef, undef, undef, undef, undef, undef, undef, undef, undef, undef⟩, ⟨hh, _, _, none, none, none, none, none, none⟩, rfl, rfl, Lib.hid ⟨N0, P0_0, P0_1, fun _ => ⟨_, _, rfl, rfl⟩, N1, P1_0, fun _ => ⟨_, _, rfl, rfl⟩, NH, PH, nofun, fun _ => hSr⟩⟩
    refine StepsU.cons ?_ ?_
    · intro Q E0 listed a w' hI hM hk haft K hK
      obtain ⟨⟨b0, b1, b2, b3, b4, b5, b6, b7, b8, b9, b10, b11, b12, b13, b14, b15, b16, b17, b18_, b19_, b20_, b21_, b22_, b23_, b24_, b25_, b26_, b27_, b28_, b29_, b30_, b31_⟩, ⟨x7, x25, x28, x31, x32, x35, xx6_, xx7_, xx8_, xx9_, xx10_, xx11_, xx12_, xx13_, xx14_, xx15_⟩, ⟨hh, r0, r1, r2, r3, r4, r5, r6, r7⟩, hl, ha, HF⟩ := hI
      dsimp only at hl ha HF
      subst hl; subst ha
      obtain ⟨N0, P0_0, P0_1, P0_2, N1, P1_0, P1_1, NH, PH, Z, HS⟩ := HF.out
      clear HF
      have hk' : b16 = false := hk
      subst hk'
      clear hk
      obtain rfl : b17 = false := by cases b17 with | false => rfl | true => exact absurd (hM 17 16 rfl rfl) Bool.false_ne_true
      clear haft
      have hSr := HS rfl
      have hBl := hSr.bel
      obtain ⟨⟨q0, q1, q2, q3⟩, ⟨p0, p1, p2, p3⟩⟩ := HK.out w' hBl
      obtain rfl := NH rfl
      go_simp
      exact hK _ _ ⟨⟨b0, b1, b2, b3, b4, b5, b6, b7, b8, b9, b10, b11, b12, b13, b14, b15, true, false, false, false, false, false, false, false, false, false, false, false, false, false, false, false⟩, ⟨.pointer (some ⟨w'.heap.size, 0, none⟩), x25, x28, x31, x32, x35, undef, undef, undef, undef, undef, undef, undef, undef, undef, undef⟩, ⟨some (w'.heap.size, .cells #[.int .i64 0, .slice none 0 0, .slice none 0 0, .slice none 0 0] 36 (0, 0)), r0, r1, none, none, none, none, none, none⟩, rfl, rfl, Lib.hid ⟨N0, P0_0, P0_1, P0_2, N1, P1_0, P1_1, nofun, fun _ _ => ⟨_, rfl, rfl⟩, nofun, fun _ => hSr.hdr _ _⟩⟩
    refine StepsU.cons ?_ ?_
    · intro Q E0 listed a w' hI hM hk haft K hK
      obtain ⟨⟨b0, b1, b2, b3, b4, b5, b6, b7, b8, b9, b10, b11, b12, b13, b14, b15, b16, b17, b18_, b19_, b20_, b21_, b22_, b23_, b24_, b25_, b26_, b27_, b28_, b29_, b30_, b31_⟩, ⟨x7, x25, x28, x31, x32, x35, xx6_, xx7_, xx8_, xx9_, xx10_, xx11_, xx12_, xx13_, xx14_, xx15_⟩, ⟨hh, r0, r1, r2, r3, r4, r5, r6, r7⟩, hl, ha, HF⟩ := hI
      dsimp only at hl ha HF
      subst hl; subst ha
      obtain ⟨N0, P0_0, P0_1, P0_2, N1, P1_0, P1_1, NH, PH, Z, HS⟩ := HF.out
      clear HF
      have hk' : b17 = false := hk
      subst hk'
      clear hk
      obtain rfl : b15 = true := haft ⟨15, .data⟩ (by simp) rfl
      obtain rfl : b16 = true := haft ⟨16, .data⟩ (by simp) rfl
      obtain rfl : b0 = true := haft ⟨0, .phase⟩ (by simp) rfl
      obtain rfl : b1 = true := haft ⟨1, .phase⟩ (by simp) rfl
      obtain rfl : b2 = true := haft ⟨2, .phase⟩ (by simp) rfl
      obtain rfl : b3 = true := haft ⟨3, .phase⟩ (by simp) rfl
      obtain rfl : b4 = true := haft ⟨4, .phase⟩ (by simp) rfl
      obtain rfl : b5 = true := haft ⟨5, .phase⟩ (by simp) rfl
      obtain rfl : b6 = true := haft ⟨6, .phase⟩ (by simp) rfl
      obtain rfl : b7 = true := haft ⟨7, .phase⟩ (by simp) rfl
      obtain rfl : b8 = true := haft ⟨8, .phase⟩ (by simp) rfl
      obtain rfl : b9 = true := haft ⟨9, .phase⟩ (by simp) rfl
      obtain rfl : b10 = true := haft ⟨10, .phase⟩ (by simp) rfl
      obtain rfl : b11 = true := haft ⟨11, .phase⟩ (by simp) rfl
      obtain rfl : b12 = true := haft ⟨12, .phase⟩ (by simp) rfl
      obtain rfl : b13 = true := haft ⟨13, .phase⟩ (by simp) rfl
      obtain rfl : b14 = true := haft ⟨14, .phase⟩ (by simp) rfl
      clear haft
      obtain ⟨gh, rfl, rfl⟩ := PH rfl rfl
      obtain ⟨g8, c8, rfl, rfl⟩ := P0_2 rfl
      obtain ⟨g12, c12, rfl, rfl⟩ := P1_1 rfl
      have hSr := HS rfl
      have hBl := hSr.bel
      obtain ⟨⟨q0, q1, q2, q3⟩, ⟨p0, p1, p2, p3⟩⟩ := HK.out w' hBl
      obtain ⟨hh1, hh2, hh3⟩ := hSr.hd _ _ rfl
      obtain ⟨e0, e1, e2, e3⟩ := blk4 hh1
      have g1 := blkFz hh1
      go_simp
      exact hK _ _ ⟨⟨true, true, true, true, true, true, true, true, true, true, true, true, true, true, true, true, true, true, false, false, false, false, false, false, false, false, false, false, false, false, false, false⟩, ⟨_, x25, x28, _, x32, _, undef, undef, undef, undef, undef, undef, undef, undef, undef, undef⟩, ⟨_, _, _, none, none, none, none, none, none⟩, rfl, rfl, Lib.hid ⟨N0, P0_0, P0_1, fun _ => ⟨_, _, rfl, rfl⟩, N1, P1_0, fun _ => ⟨_, _, rfl, rfl⟩, NH, fun _ => nofun, fun _ => ⟨gh, _, _, rfl, hh2, hSr.nstE X.states (ms := mx) (fs := A.firsts) (es := X.ends) (List.mem_of_getElem? (i := 0) rfl) (List.mem_of_getElem? (i := 1) rfl) HO.out.2.2.1, blk_st4 (blkBel hBl k0.out) (by have := HWz.out; omega), blk_st4 (blkBel hBl kx.out) (by have := HWz.out; omega), blk_st4 (blkBel hBl k2.out) (by have := HWz.out; omega)⟩, nofun⟩⟩
    exact StepsU.nil
  · intro G0 hG0 listed a w' hI hall
    obtain ⟨⟨b0, b1, b2, b3, b4, b5, b6, b7, b8, b9, b10, b11, b12, b13, b14, b15, b16, b17, b18_, b19_, b20_, b21_, b22_, b23_, b24_, b25_, b26_, b27_, b28_, b29_, b30_, b31_⟩, ⟨x7, x25, x28, x31, x32, x35, xx6_, xx7_, xx8_, xx9_, xx10_, xx11_, xx12_, xx13_, xx14_, xx15_⟩, ⟨hh, r0, r1, r2, r3, r4, r5, r6, r7⟩, hl, ha, HF⟩ := hI
    dsimp only at hl ha HF
    subst hl; subst ha
    obtain rfl : b0 = true := hall 0 (by decide)
    obtain rfl : b1 = true := hall 1 (by decide)
    obtain rfl : b2 = true := hall 2 (by decide)
    obtain rfl : b3 = true := hall 3 (by decide)
    obtain rfl : b4 = true := hall 4 (by decide)
    obtain rfl : b5 = true := hall 5 (by decide)
    obtain rfl : b6 = true := hall 6 (by decide)
    obtain rfl : b7 = true := hall 7 (by decide)
    obtain rfl : b8 = true := hall 8 (by decide)
    obtain rfl : b9 = true := hall 9 (by decide)
    obtain rfl : b10 = true := hall 10 (by decide)
    obtain rfl : b11 = true := hall 11 (by decide)
    obtain rfl : b12 = true := hall 12 (by decide)
    obtain rfl : b13 = true := hall 13 (by decide)
    obtain rfl : b14 = true := hall 14 (by decide)
    obtain rfl : b15 = true := hall 15 (by decide)
    obtain rfl : b16 = true := hall 16 (by decide)
    obtain rfl : b17 = true := hall 17 (by decide)
    exact hG0 _ _ _ _ _ _ _ (HF.out.2.2.2.2.2.2.2.2.2.1 rfl)
  · intro x7 x25 x28 x31 x32 x35 w' hFin
    obtain ⟨g, vm, vf, rfl, hgw, hs, h0, h1, h2⟩ := hFin
    clear HK
    have HM0 : Hid (mx.length ≤ 800) := Lib.hid (by rw [← HMXL.out]; have := HLA.out; have := HLX.out; omega)
    have HD : Hid (joinD A B = ⟨X.states, mx ++ A.ends.flatMap (fun e => X.firsts.map fun y => (e, -1, y)), A.firsts, X.ends⟩) := Lib.hid (by
      rw [← HMX.out, HX.out]; unfold joinD shD links
      simp only [List.map_map, Function.comp_def, List.append_assoc]
      rw [Int.add_comm])
    have HAW : Hid (∀ wr, Below W.heap.size W wr → Below w.heap.size w wr) := fun wr hb => Hb0.out.trans (hb.mono Hb0.out.size)
    have HXF : Hid (Ints (w.heap.size ≤ ·) W (.slice a2x X.firsts.length c2x) X.firsts) := Lib.hid HO.out.w.rd.2.1
    obtain ⟨ve, hve⟩ : ∃ v, v = Value.slice a3x X.ends.length c3x := ⟨_, rfl⟩
    have HS : Hid (NSx W w' g w.heap.size X.states vm vf ve mx A.firsts X.ends) := Lib.hid (by rw [hve]; exact hs)
    have Hve := Lib.hid hve
    have K0 := Lib.hid h0; have K1 := Lib.hid h1; have K2 := Lib.hid h2; have Hgw := Lib.hid (show w.heap.size + 2 < g ∧ bx < g from by have := HWz.out; omega); clear hs h0 h1 h2 hgw hve
    have HLN := HLA
    go_wp2_with fail
    go_loopw [8] (fun i wr => ∃ (o : Nat) (vm : Value), o ≤ A.ends.length ∧ i = .int .i64 o ∧ Hid (NSx W wr g w.heap.size X.states vm vf ve (mx ++ (A.ends.take o).flatMap (fun e => X.firsts.map fun y => ((e, -1, y) : Int × Int × Int))) A.firsts X.ends) ∧ Hid (wr.heap[w.heap.size]? = some (.cells #[.int .i64 A.states, .slice a1a A.moves.length c1a, .slice a2a A.firsts.length c2a, .slice a3a A.ends.length c3a] 36 (0, 0))) ∧ Hid (wr.heap[bx]? = some (.cells #[.int .i64 X.states, .slice a1x X.moves.length c1x, .slice a2x X.firsts.length c2x, .slice a3x X.ends.length c3x] 36 (0, 0))) ∧ Hid (wr.heap[w.heap.size + 2]? = some (.cells #[.int .i64 0, .slice none 0 0, .slice none 0 0, .slice none 0 0] 36 (0, 0)))) (fun i _ => A.ends.length - (intOf i).toNat)
    case atStart => exact ⟨0, _, by omega, rfl, by rw [show mx ++ (A.ends.take 0).flatMap (fun e => X.firsts.map fun y => ((e, -1, y) : Int × Int × Int)) = mx by simp]; exact HS, K0, K1, K2⟩
    case round =>
      obtain ⟨o, vm, ho, rfl, hs, h0, h1, h2⟩ := hrel
      clear HS K0 K1 K2
      obtain ⟨c0, d1, d2, d3⟩ := blk4 h0.out
      by_cases hlto : o < A.ends.length
      · obtain ⟨bo, oo, rfl, _⟩ := ((HA.out.2.2).stay (kpB (HAW.out _ hs.out.bel))).at hlto
        obtain ⟨xo, hxo⟩ : ∃ xo, xo = A.ends[o] := ⟨_, rfl⟩
        have HCo : Hid (∀ wr, Below W.heap.size W wr → wr.cell? ⟨bo, oo + o, none⟩ = some (.int .i64 xo)) := fun wr hb => by
          obtain ⟨b', o', e, h⟩ := ((HA.out.2.2).stay (kpB (HAW.out _ hb))).at hlto
          cases e
          rw [hxo]; exact h
        have Hso : Hid ((A.ends.take (o + 1)).flatMap (fun e => X.firsts.map fun y => ((e, -1, y) : Int × Int × Int)) = (A.ends.take o).flatMap (fun e => X.firsts.map fun y => (e, -1, y)) ++ X.firsts.map fun y => (xo, -1, y)) := Lib.hid (by rw [List.take_succ_eq_append_getElem hlto, List.flatMap_append, hxo]; simp)
        clear hxo
        obtain ⟨MK, hMK⟩ : ∃ MK, MK = mx ++ (A.ends.take o).flatMap (fun e => X.firsts.map fun y => ((e, -1, y) : Int × Int × Int)) := ⟨_, rfl⟩
        rw [← hMK] at hs
        have HMK : Hid (MK.length ≤ 10000) := Lib.hid (by
          have hl : ((A.ends.take o).flatMap (fun e => X.firsts.map fun y => ((e, -1, y) : Int × Int × Int))).length = (A.ends.take o).length * X.firsts.length := by
            have := links_len 0 (A.ends.take o) X.firsts; unfold links at this; simpa using this
          rw [hMK, List.length_append, hl, List.length_take]; have h1 := HM0.out; have h2 := HLA.out; have h3 := HLX.out; have : min o A.ends.length * X.firsts.length ≤ 40 * 40 := Nat.mul_le_mul (by omega) h3.2.1; omega)
        have HMS : Hid (mx ++ (A.ends.take (o + 1)).flatMap (fun e => X.firsts.map fun y => ((e, -1, y) : Int × Int × Int)) = MK ++ X.firsts.map fun y => (xo, -1, y)) := Lib.hid (by rw [hMK, Hso.out, List.append_assoc])
        clear hMK Hso
        have HS := hs; have K0 := h0; have K1 := h1; have K2 := h2; clear hs h0 h1 h2
        have hltoI : (o : Int) < (A.ends.length : Int) := by omega
        have ho0 : (0 : Int) ≤ (o : Int) := Int.natCast_nonneg _
        go_wp2_with fail
        clear c0 d1 d2 d3
        go_loopw [9] (fun i wr => ∃ (k : Nat) (vm : Value), k ≤ X.firsts.length ∧ i = .int .i64 k ∧ Hid (NSx W wr g w.heap.size X.states vm vf ve (MK ++ (X.firsts.take k).map (fun y : Int => ((xo, -1, y) : Int × Int × Int))) A.firsts X.ends) ∧ Hid (wr.heap[w.heap.size]? = some (.cells #[.int .i64 A.states, .slice a1a A.moves.length c1a, .slice a2a A.firsts.length c2a, .slice (some ⟨bo, oo, none⟩) A.ends.length c3a] 36 (0, 0))) ∧ Hid (wr.heap[bx]? = some (.cells #[.int .i64 X.states, .slice a1x X.moves.length c1x, .slice a2x X.firsts.length c2x, .slice a3x X.ends.length c3x] 36 (0, 0))) ∧ Hid (wr.heap[w.heap.size + 2]? = some (.cells #[.int .i64 0, .slice none 0 0, .slice none 0 0, .slice none 0 0] 36 (0, 0)))) (fun i _ => X.firsts.length - (intOf i).toNat)
        case atStart => exact ⟨0, _, by omega, rfl, by rw [List.take_zero, List.map_nil, List.append_nil]; exact HS, K0, K1, K2⟩
        case round =>
          obtain ⟨k, vm, hk, rfl, hs, h0, h1, h2⟩ := hrel
          clear HS K0 K1 K2
          obtain ⟨c0, d1, d2, d3⟩ := blk4 h0.out
          obtain ⟨y0, y1, y2, y3⟩ := blk4 h1.out
          by_cases hlt : k < X.firsts.length
          · obtain ⟨b, off, rfl, m0⟩ := (HXF.out.stay (kpB hs.out.bel)).at hlt
            have mo := HCo.out _ hs.out.bel
            have Hst := Lib.hid (map_take_step (fun y : Int => ((xo, -1, y) : Int × Int × Int)) X.firsts hlt)
            obtain ⟨x, hx⟩ : ∃ x, x = X.firsts[k] := ⟨_, rfl⟩
            rw [← hx] at m0 Hst
            clear hx
            obtain ⟨ms, hms⟩ : ∃ ms, ms = MK ++ (X.firsts.take k).map (fun y : Int => ((xo, -1, y) : Int × Int × Int)) := ⟨_, rfl⟩
            have Hms : Hid (MK ++ (X.firsts.take (k + 1)).map (fun y : Int => ((xo, -1, y) : Int × Int × Int)) = ms ++ [(xo, -1, x)]) := Lib.hid (by rw [hms, Hst.out, List.append_assoc])
            rw [← hms] at hs
            have hml := Lib.hid (show ms.length ≤ 1000000000 from by rw [hms]; simp only [List.length_append, List.length_map, List.length_take]; have := HMK.out; have := HLX.out; omega)
            clear hms Hst
            obtain ⟨am, cm, hvm, _⟩ := hs.out.mv.shape
            obtain ⟨nm, hnm⟩ : ∃ nm, nm = ms.length := ⟨_, rfl⟩
            rw [← hnm] at hvm
            have Hnm := Lib.hid hnm; clear hnm
            subst hvm
            obtain ⟨e0, e1, e2, e3⟩ := blk4 hs.out.hd
            have HXD := Lib.hid (hs.out.stay (Below.refl _ _).drew)
            have h02 : Hid (wr.drew.heap[w.heap.size]? = _) := h0
            have h12 : Hid (wr.drew.heap[bx]? = _) := h1
            have h22 : Hid (wr.drew.heap[w.heap.size + 2]? = _) := h2
            have c0D : wr.drew.cell? ⟨w.heap.size, 0, none⟩ = _ := c0
            have d1D : wr.drew.cell? ⟨w.heap.size, 1, none⟩ = _ := d1
            have d2D : wr.drew.cell? ⟨w.heap.size, 2, none⟩ = _ := d2
            have d3D : wr.drew.cell? ⟨w.heap.size, 3, none⟩ = _ := d3
            have e1D : wr.drew.cell? ⟨g, 1, none⟩ = _ := e1
            have y2D : wr.drew.cell? ⟨bx, 2, none⟩ = _ := y2
            have m0D : wr.drew.cell? ⟨b, off + k, none⟩ = _ := m0
            have moD : wr.drew.cell? ⟨bo, oo + o, none⟩ = _ := mo
            have hltI : (k : Int) < (X.firsts.length : Int) := by omega
            have hk0 : (0 : Int) ≤ (k : Int) := Int.natCast_nonneg _
            go_wp2_with fail
            refine wp_region_inv2 [(1, 0), (3, 2), (5, 3), (5, 4), (6, 5), (8, 7), (10, 8), (10, 9), (11, 10), (12, 6), (12, 11), (13, 12), (14, 1), (14, 13), (16, 14), (16, 15)] (fun listed a w' => ∃ (b0 b1 b2 b3 b4 b5 b6 b7 b8 b9 b10 b11 b12 b13 b14 b15 b16 : Bool) (x66 x67 : Value), listed = #[b0, b1, b2, b3, b4, b5, b6, b7, b8, b9, b10, b11, b12, b13, b14, b15, b16] ∧ a = { tmps := #[Value.agg #[Value.int IntKind.i64 A.states, Value.slice a1a A.moves.length c1a, Value.slice a2a A.firsts.length c2a, Value.slice (some { block := bo, off := oo }) A.ends.length c3a], Value.agg #[Value.int IntKind.i64 B.states, Value.slice a1b B.moves.length c1b, Value.slice a2b B.firsts.length c2b, Value.slice a3b B.ends.length c3b], Value.pointer (some { block := w.heap.size, off := 0 }), Value.pointer (some { block := w.heap.size + 1, off := 0 }), Value.pointer (some { block := w.heap.size + 1 + 1, off := 0 }), Value.bool false, Value.pointer (some { block := bx, off := 0 }), Value.pointer (some { block := g, off := 0 }), Value.int IntKind.i64 ↑o, Value.int IntKind.i64 ↑k, Value.agg #[Value.int IntKind.i64 A.states, Value.slice a1a A.moves.length c1a, Value.slice a2a A.firsts.length c2a, Value.slice (some { block := bo, off := oo }) A.ends.length c3a], Value.bool true, Value.bool false, Value.bool false, Value.agg #[Value.int IntKind.i64 B.states, Value.slice a1b B.moves.length c1b, Value.slice a2b B.firsts.length c2b, Value.slice a3b B.ends.length c3b], Value.bool true, Value.bool false, Value.bool false, undef, Value.agg #[Value.int IntKind.i64 B.states, Value.slice a1b B.moves.length c1b, Value.slice a2b B.firsts.length c2b, Value.slice a3b B.ends.length c3b], Value.pointer (some { block := w.heap.size, off := 0 }), Value.int IntKind.i64 A.states, Value.agg #[Value.int IntKind.i64 X.states, Value.slice a1x X.moves.length c1x, Value.slice (some { block := b, off := off }) X.firsts.length c2x, Value.slice a3x X.ends.length c3x], Value.pointer (some { block := bx, off := 0 }), Value.int IntKind.i64 X.states, x25, Value.pointer (some { block := w.heap.size, off := 1 }), Value.slice a1a A.moves.length c1a, x28, Value.pointer (some { block := bx, off := 1 }), Value.slice a1x X.moves.length c1x, x31, x32, Value.pointer (some { block := w.heap.size, off := 2 }), Value.slice a2a A.firsts.length c2a, x35, Value.pointer (some { block := bx, off := 3 }), Value.slice a3x X.ends.length c3x, Value.agg #[Value.int IntKind.i64 X.states, x31, x35, Value.slice a3x X.ends.length c3x], Value.int IntKind.i64 ↑o, Value.pointer (some { block := w.heap.size, off := 3 }), Value.slice (some { block := bo, off := oo }) A.ends.length c3a, Value.int IntKind.i64 ↑A.ends.length, Value.bool true, u44, u45, Value.int IntKind.i64 ↑k, Value.pointer (some { block := bx, off := 2 }), Value.slice (some { block := b, off := off }) X.firsts.length c2x, Value.int IntKind.i64 ↑X.firsts.length, Value.bool true, u51, u52, cond b0 (.pointer (some ⟨g, 1, none⟩)) (u53), cond b1 (.slice am nm cm) (u54), cond b2 (.pointer (some ⟨w.heap.size, 3, none⟩)) (u55), cond b3 (.slice (some ⟨bo, oo, none⟩) A.ends.length c3a) (u56), cond b4 (.int .i64 o) (u57), cond b5 (.pointer (some ⟨bo, oo + o, none⟩)) (u58), cond b6 (.int .i64 xo) (u59), cond b7 (.pointer (some ⟨bx, 2, none⟩)) (u60), cond b8 (.slice (some ⟨b, off, none⟩) X.firsts.length c2x) (u61), cond b9 (.int .i64 k) (u62), cond b10 (.pointer (some ⟨b, off + k, none⟩)) (u63), cond b11 (.int .i64 x) (u64), cond b12 (.agg #[.int .i64 xo, .int .i64 (-1), .int .i64 x]) (u65), x66, x67, cond b15 (.pointer (some ⟨g, 1, none⟩)) (u68), undef, undef, undef, undef], defers := [] } ∧ Hid ((b13 = false → w' = wr.drew) ∧ (b13 = true → b14 = false → (w' = (wr.drew.alloc (.cells #[.int .i64 xo, .int .i64 (-1), .int .i64 x] 40)) ∧ x66 = .slice (some ⟨wr.heap.size, 0, none⟩) 1 1)) ∧ (b14 = true → b16 = false → (∃ (g7 : Nat) (cap7 : Nat), x67 = .slice (some ⟨g7, 0, none⟩) (ms.length + 1) cap7 ∧ Own3 w' W.heap.size 40 (.slice (some ⟨g7, 0, none⟩) (ms.length + 1) cap7) (ms ++ [(xo, -1, x)]) ∧ wr.drew.grownBy w' (Value.slice am nm cm).ownBlock)) ∧ (b16 = true → (∃ vm', NSx W w' g w.heap.size (X.states) vm' vf ve (ms ++ [(xo, -1, x)]) A.firsts X.ends ∧ w'.heap[w.heap.size]? = some (.cells #[.int .i64 A.states, .slice a1a A.moves.length c1a, .slice a2a A.firsts.length c2a, .slice (some ⟨bo, oo, none⟩) A.ends.length c3a] 36 (0, 0)) ∧ w'.heap[bx]? = some (.cells #[.int .i64 X.states, .slice a1x X.moves.length c1x, .slice (some ⟨b, off, none⟩) X.firsts.length c2x, .slice a3x X.ends.length c3x] 36 (0, 0)) ∧ w'.heap[w.heap.size + 2]? = some (.cells #[.int .i64 0, .slice none 0 0, .slice none 0 0, .slice none 0 0] 36 (0, 0)))))) (fun G => ∀ (x66 x67 : Value) (w' : World), ((∃ vm', NSx W w' g w.heap.size (X.states) vm' vf ve (ms ++ [(xo, -1, x)]) A.firsts X.ends ∧ w'.heap[w.heap.size]? = some (.cells #[.int .i64 A.states, .slice a1a A.moves.length c1a, .slice a2a A.firsts.length c2a, .slice (some ⟨bo, oo, none⟩) A.ends.length c3a] 36 (0, 0)) ∧ w'.heap[bx]? = some (.cells #[.int .i64 X.states, .slice a1x X.moves.length c1x, .slice (some ⟨b, off, none⟩) X.firsts.length c2x, .slice a3x X.ends.length c3x] 36 (0, 0)) ∧ w'.heap[w.heap.size + 2]? = some (.cells #[.int .i64 0, .slice none 0 0, .slice none 0 0, .slice none 0 0] 36 (0, 0)))) → G { tmps := #[Value.agg #[Value.int IntKind.i64 A.states, Value.slice a1a A.moves.length c1a, Value.slice a2a A.firsts.length c2a, Value.slice (some { block := bo, off := oo }) A.ends.length c3a], Value.agg #[Value.int IntKind.i64 B.states, Value.slice a1b B.moves.length c1b, Value.slice a2b B.firsts.length c2b, Value.slice a3b B.ends.length c3b], Value.pointer (some { block := w.heap.size, off := 0 }), Value.pointer (some { block := w.heap.size + 1, off := 0 }), Value.pointer (some { block := w.heap.size + 1 + 1, off := 0 }), Value.bool false, Value.pointer (some { block := bx, off := 0 }), Value.pointer (some { block := g, off := 0 }), Value.int IntKind.i64 ↑o, Value.int IntKind.i64 ↑k, Value.agg #[Value.int IntKind.i64 A.states, Value.slice a1a A.moves.length c1a, Value.slice a2a A.firsts.length c2a, Value.slice (some { block := bo, off := oo }) A.ends.length c3a], Value.bool true, Value.bool false, Value.bool false, Value.agg #[Value.int IntKind.i64 B.states, Value.slice a1b B.moves.length c1b, Value.slice a2b B.firsts.length c2b, Value.slice a3b B.ends.length c3b], Value.bool true, Value.bool false, Value.bool false, undef, Value.agg #[Value.int IntKind.i64 B.states, Value.slice a1b B.moves.length c1b, Value.slice a2b B.firsts.length c2b, Value.slice a3b B.ends.length c3b], Value.pointer (some { block := w.heap.size, off := 0 }), Value.int IntKind.i64 A.states, Value.agg #[Value.int IntKind.i64 X.states, Value.slice a1x X.moves.length c1x, Value.slice (some { block := b, off := off }) X.firsts.length c2x, Value.slice a3x X.ends.length c3x], Value.pointer (some { block := bx, off := 0 }), Value.int IntKind.i64 X.states, x25, Value.pointer (some { block := w.heap.size, off := 1 }), Value.slice a1a A.moves.length c1a, x28, Value.pointer (some { block := bx, off := 1 }), Value.slice a1x X.moves.length c1x, x31, x32, Value.pointer (some { block := w.heap.size, off := 2 }), Value.slice a2a A.firsts.length c2a, x35, Value.pointer (some { block := bx, off := 3 }), Value.slice a3x X.ends.length c3x, Value.agg #[Value.int IntKind.i64 X.states, x31, x35, Value.slice a3x X.ends.length c3x], Value.int IntKind.i64 ↑o, Value.pointer (some { block := w.heap.size, off := 3 }), Value.slice (some { block := bo, off := oo }) A.ends.length c3a, Value.int IntKind.i64 ↑A.ends.length, Value.bool true, u44, u45, Value.int IntKind.i64 ↑k, Value.pointer (some { block := bx, off := 2 }), Value.slice (some { block := b, off := off }) X.firsts.length c2x, Value.int IntKind.i64 ↑X.firsts.length, Value.bool true, u51, u52, .pointer (some ⟨g, 1, none⟩), .slice am nm cm, .pointer (some ⟨w.heap.size, 3, none⟩), .slice (some ⟨bo, oo, none⟩) A.ends.length c3a, .int .i64 o, .pointer (some ⟨bo, oo + o, none⟩), .int .i64 xo, .pointer (some ⟨bx, 2, none⟩), .slice (some ⟨b, off, none⟩) X.firsts.length c2x, .int .i64 k, .pointer (some ⟨b, off + k, none⟩), .int .i64 x, .agg #[.int .i64 xo, .int .i64 (-1), .int .i64 x], x66, x67, .pointer (some ⟨g, 1, none⟩), undef, undef, undef, undef], defers := [] } w') (by kernel_rfl) (by kernel_rfl) (by kernel_rfl) (by kernel_rfl) ?_ ?_ ?_ ?_
            · exact ⟨false, false, false, false, false, false, false, false, false, false, false, false, false, false, false, false, false, u66, u67, rfl, rfl, Lib.hid ⟨fun _ => rfl, nofun, nofun, nofun⟩⟩
            · refine StepsU.cons ?_ ?_
              · intro Q E0 listed a w' hI hM hk haft K hK
                obtain ⟨b0, b1, b2, b3, b4, b5, b6, b7, b8, b9, b10, b11, b12, b13, b14, b15, b16, x66, x67, hl, ha, HF⟩ := hI
                subst hl; subst ha
                obtain ⟨G, G13, G14, G16⟩ := HF.out
                clear HF
                have hk' : b0 = false := hk
                subst hk'
                clear hk
                obtain rfl : b1 = false := by cases b1 with | false => rfl | true => exact absurd (hM 1 0 rfl rfl) Bool.false_ne_true
                obtain rfl : b14 = false := by cases b14 with | false => rfl | true => exact absurd (hM 14 1 rfl rfl) Bool.false_ne_true
                obtain rfl : b16 = false := by cases b16 with | false => rfl | true => exact absurd (hM 16 14 rfl rfl) Bool.false_ne_true
                clear haft
                go_simp
                exact hK _ _ ⟨true, false, b2, b3, b4, b5, b6, b7, b8, b9, b10, b11, b12, b13, false, b15, false, _, _, rfl, rfl, Lib.hid ⟨G, G13, nofun, nofun⟩⟩
              refine StepsU.cons ?_ ?_
              · intro Q E0 listed a w' hI hM hk haft K hK
                obtain ⟨b0, b1, b2, b3, b4, b5, b6, b7, b8, b9, b10, b11, b12, b13, b14, b15, b16, x66, x67, hl, ha, HF⟩ := hI
                subst hl; subst ha
                obtain ⟨G, G13, G14, G16⟩ := HF.out
                clear HF
                have hk' : b1 = false := hk
                subst hk'
                clear hk
                obtain rfl : b14 = false := by cases b14 with | false => rfl | true => exact absurd (hM 14 1 rfl rfl) Bool.false_ne_true
                obtain rfl : b16 = false := by cases b16 with | false => rfl | true => exact absurd (hM 16 14 rfl rfl) Bool.false_ne_true
                obtain rfl : b0 = true := haft ⟨0, .data⟩ (by simp) rfl
                clear haft
                have e1W : w'.cell? ⟨g, 1, none⟩ = some (.slice am nm cm) := by cases b13 with | false => (rw [G rfl]; exact e1D) | true => (rw [(G13 rfl rfl).1]; exact kpAlloc (S := fun _ => True) _ _ trivial e1D)
                go_simp
                exact hK _ _ ⟨true, true, b2, b3, b4, b5, b6, b7, b8, b9, b10, b11, b12, b13, false, b15, false, _, _, rfl, rfl, Lib.hid ⟨G, G13, nofun, nofun⟩⟩
              refine StepsU.cons ?_ ?_
              · intro Q E0 listed a w' hI hM hk haft K hK
                obtain ⟨b0, b1, b2, b3, b4, b5, b6, b7, b8, b9, b10, b11, b12, b13, b14, b15, b16, x66, x67, hl, ha, HF⟩ := hI
                subst hl; subst ha
                obtain ⟨G, G13, G14, G16⟩ := HF.out
                clear HF
                have hk' : b2 = false := hk
                subst hk'
                clear hk
                obtain rfl : b3 = false := by cases b3 with | false => rfl | true => exact absurd (hM 3 2 rfl rfl) Bool.false_ne_true
                obtain rfl : b5 = false := by cases b5 with | false => rfl | true => exact absurd (hM 5 3 rfl rfl) Bool.false_ne_true
                obtain rfl : b6 = false := by cases b6 with | false => rfl | true => exact absurd (hM 6 5 rfl rfl) Bool.false_ne_true
                obtain rfl : b12 = false := by cases b12 with | false => rfl | true => exact absurd (hM 12 6 rfl rfl) Bool.false_ne_true
                obtain rfl : b13 = false := by cases b13 with | false => rfl | true => exact absurd (hM 13 12 rfl rfl) Bool.false_ne_true
                obtain rfl : b14 = false := by cases b14 with | false => rfl | true => exact absurd (hM 14 13 rfl rfl) Bool.false_ne_true
                obtain rfl : b16 = false := by cases b16 with | false => rfl | true => exact absurd (hM 16 14 rfl rfl) Bool.false_ne_true
                clear haft
                obtain rfl := G rfl
                go_simp
                exact hK _ _ ⟨b0, b1, true, false, b4, false, false, b7, b8, b9, b10, b11, false, false, false, b15, false, _, _, rfl, rfl, Lib.hid ⟨fun _ => rfl, nofun, nofun, nofun⟩⟩
              refine StepsU.cons ?_ ?_
              · intro Q E0 listed a w' hI hM hk haft K hK
                obtain ⟨b0, b1, b2, b3, b4, b5, b6, b7, b8, b9, b10, b11, b12, b13, b14, b15, b16, x66, x67, hl, ha, HF⟩ := hI
                subst hl; subst ha
                obtain ⟨G, G13, G14, G16⟩ := HF.out
                clear HF
                have hk' : b3 = false := hk
                subst hk'
                clear hk
                obtain rfl : b5 = false := by cases b5 with | false => rfl | true => exact absurd (hM 5 3 rfl rfl) Bool.false_ne_true
                obtain rfl : b6 = false := by cases b6 with | false => rfl | true => exact absurd (hM 6 5 rfl rfl) Bool.false_ne_true
                obtain rfl : b12 = false := by cases b12 with | false => rfl | true => exact absurd (hM 12 6 rfl rfl) Bool.false_ne_true
                obtain rfl : b13 = false := by cases b13 with | false => rfl | true => exact absurd (hM 13 12 rfl rfl) Bool.false_ne_true
                obtain rfl : b14 = false := by cases b14 with | false => rfl | true => exact absurd (hM 14 13 rfl rfl) Bool.false_ne_true
                obtain rfl : b16 = false := by cases b16 with | false => rfl | true => exact absurd (hM 16 14 rfl rfl) Bool.false_ne_true
                obtain rfl : b2 = true := haft ⟨2, .data⟩ (by simp) rfl
                clear haft
                obtain rfl := G rfl
                go_simp
                exact hK _ _ ⟨b0, b1, true, true, b4, false, false, b7, b8, b9, b10, b11, false, false, false, b15, false, _, _, rfl, rfl, Lib.hid ⟨fun _ => rfl, nofun, nofun, nofun⟩⟩
              refine StepsU.cons ?_ ?_
              · intro Q E0 listed a w' hI hM hk haft K hK
                obtain ⟨b0, b1, b2, b3, b4, b5, b6, b7, b8, b9, b10, b11, b12, b13, b14, b15, b16, x66, x67, hl, ha, HF⟩ := hI
                subst hl; subst ha
                obtain ⟨G, G13, G14, G16⟩ := HF.out
                clear HF
                have hk' : b4 = false := hk
                subst hk'
                clear hk
                obtain rfl : b5 = false := by cases b5 with | false => rfl | true => exact absurd (hM 5 4 rfl rfl) Bool.false_ne_true
                obtain rfl : b6 = false := by cases b6 with | false => rfl | true => exact absurd (hM 6 5 rfl rfl) Bool.false_ne_true
                obtain rfl : b12 = false := by cases b12 with | false => rfl | true => exact absurd (hM 12 6 rfl rfl) Bool.false_ne_true
                obtain rfl : b13 = false := by cases b13 with | false => rfl | true => exact absurd (hM 13 12 rfl rfl) Bool.false_ne_true
                obtain rfl : b14 = false := by cases b14 with | false => rfl | true => exact absurd (hM 14 13 rfl rfl) Bool.false_ne_true
                obtain rfl : b16 = false := by cases b16 with | false => rfl | true => exact absurd (hM 16 14 rfl rfl) Bool.false_ne_true
                clear haft
                obtain rfl := G rfl
                go_simp
                exact hK _ _ ⟨b0, b1, b2, b3, true, false, false, b7, b8, b9, b10, b11, false, false, false, b15, false, _, _, rfl, rfl, Lib.hid ⟨fun _ => rfl, nofun, nofun, nofun⟩⟩
              refine StepsU.cons ?_ ?_
              · intro Q E0 listed a w' hI hM hk haft K hK
                obtain ⟨b0, b1, b2, b3, b4, b5, b6, b7, b8, b9, b10, b11, b12, b13, b14, b15, b16, x66, x67, hl, ha, HF⟩ := hI
                subst hl; subst ha
                obtain ⟨G, G13, G14, G16⟩ := HF.out
                clear HF
                have hk' : b5 = false := hk
                subst hk'
                clear hk
                obtain rfl : b6 = false := by cases b6 with | false => rfl | true => exact absurd (hM 6 5 rfl rfl) Bool.false_ne_true
                obtain rfl : b12 = false := by cases b12 with | false => rfl | true => exact absurd (hM 12 6 rfl rfl) Bool.false_ne_true
                obtain rfl : b13 = false := by cases b13 with | false => rfl | true => exact absurd (hM 13 12 rfl rfl) Bool.false_ne_true
                obtain rfl : b14 = false := by cases b14 with | false => rfl | true => exact absurd (hM 14 13 rfl rfl) Bool.false_ne_true
                obtain rfl : b16 = false := by cases b16 with | false => rfl | true => exact absurd (hM 16 14 rfl rfl) Bool.false_ne_true
                obtain rfl : b3 = true := haft ⟨3, .data⟩ (by simp) rfl
                obtain rfl : b4 = true := haft ⟨4, .data⟩ (by simp) rfl
                obtain rfl : b2 = true := hM 3 2 rfl rfl
                clear haft
                obtain rfl := G rfl
                go_simp
                exact hK _ _ ⟨b0, b1, true, true, true, true, false, b7, b8, b9, b10, b11, false, false, false, b15, false, _, _, rfl, rfl, Lib.hid ⟨fun _ => rfl, nofun, nofun, nofun⟩⟩
              refine StepsU.cons ?_ ?_
              · intro Q E0 listed a w' hI hM hk haft K hK
                obtain ⟨b0, b1, b2, b3, b4, b5, b6, b7, b8, b9, b10, b11, b12, b13, b14, b15, b16, x66, x67, hl, ha, HF⟩ := hI
                subst hl; subst ha
                obtain ⟨G, G13, G14, G16⟩ := HF.out
                clear HF
                have hk' : b6 = false := hk
                subst hk'
                clear hk
                obtain rfl : b12 = false := by cases b12 with | false => rfl | true => exact absurd (hM 12 6 rfl rfl) Bool.false_ne_true
                obtain rfl : b13 = false := by cases b13 with | false => rfl | true => exact absurd (hM 13 12 rfl rfl) Bool.false_ne_true
                obtain rfl : b14 = false := by cases b14 with | false => rfl | true => exact absurd (hM 14 13 rfl rfl) Bool.false_ne_true
                obtain rfl : b16 = false := by cases b16 with | false => rfl | true => exact absurd (hM 16 14 rfl rfl) Bool.false_ne_true
                obtain rfl : b5 = true := haft ⟨5, .data⟩ (by simp) rfl
                obtain rfl : b3 = true := hM 5 3 rfl rfl
                obtain rfl : b4 = true := hM 5 4 rfl rfl
                obtain rfl : b2 = true := hM 3 2 rfl rfl
                clear haft
                obtain rfl := G rfl
                go_simp
                exact hK _ _ ⟨b0, b1, true, true, true, true, true, b7, b8, b9, b10, b11, false, false, false, b15, false, _, _, rfl, rfl, Lib.hid ⟨fun _ => rfl, nofun, nofun, nofun⟩⟩
              refine StepsU.cons ?_ ?_
              · intro Q E0 listed a w' hI hM hk haft K hK
                obtain ⟨b0, b1, b2, b3, b4, b5, b6, b7, b8, b9, b10, b11, b12, b13, b14, b15, b16, x66, x67, hl, ha, HF⟩ := hI
                subst hl; subst ha
                obtain ⟨G, G13, G14, G16⟩ := HF.out
                clear HF
                have hk' : b7 = false := hk
                subst hk'
                clear hk
                obtain rfl : b8 = false := by cases b8 with | false => rfl | true => exact absurd (hM 8 7 rfl rfl) Bool.false_ne_true
                obtain rfl : b10 = false := by cases b10 with | false => rfl | true => exact absurd (hM 10 8 rfl rfl) Bool.false_ne_true
                obtain rfl : b11 = false := by cases b11 with | false => rfl | true => exact absurd (hM 11 10 rfl rfl) Bool.false_ne_true
                obtain rfl : b12 = false := by cases b12 with | false => rfl | true => exact absurd (hM 12 11 rfl rfl) Bool.false_ne_true
                obtain rfl : b13 = false := by cases b13 with | false => rfl | true => exact absurd (hM 13 12 rfl rfl) Bool.false_ne_true
                obtain rfl : b14 = false := by cases b14 with | false => rfl | true => exact absurd (hM 14 13 rfl rfl) Bool.false_ne_true
                obtain rfl : b16 = false := by cases b16 with | false => rfl | true => exact absurd (hM 16 14 rfl rfl) Bool.false_ne_true
                clear haft
                obtain rfl := G rfl
                go_simp
                exact hK _ _ ⟨b0, b1, b2, b3, b4, b5, b6, true, false, b9, false, false, false, false, false, b15, false, _, _, rfl, rfl, Lib.hid ⟨fun _ => rfl, nofun, nofun, nofun⟩⟩
              refine StepsU.cons ?_ ?_
              · intro Q E0 listed a w' hI hM hk haft K hK
                obtain ⟨b0, b1, b2, b3, b4, b5, b6, b7, b8, b9, b10, b11, b12, b13, b14, b15, b16, x66, x67, hl, ha, HF⟩ := hI
                subst hl; subst ha
                obtain ⟨G, G13, G14, G16⟩ := HF.out
                clear HF
                have hk' : b8 = false := hk
                subst hk'
                clear hk
                obtain rfl : b10 = false := by cases b10 with | false => rfl | true => exact absurd (hM 10 8 rfl rfl) Bool.false_ne_true
                obtain rfl : b11 = false := by cases b11 with | false => rfl | true => exact absurd (hM 11 10 rfl rfl) Bool.false_ne_true
                obtain rfl : b12 = false := by cases b12 with | false => rfl | true => exact absurd (hM 12 11 rfl rfl) Bool.false_ne_true
                obtain rfl : b13 = false := by cases b13 with | false => rfl | true => exact absurd (hM 13 12 rfl rfl) Bool.false_ne_true
                obtain rfl : b14 = false := by cases b14 with | false => rfl | true => exact absurd (hM 14 13 rfl rfl) Bool.false_ne_true
                obtain rfl : b16 = false := by cases b16 with | false => rfl | true => exact absurd (hM 16 14 rfl rfl) Bool.false_ne_true
                obtain rfl : b7 = true := haft ⟨7, .data⟩ (by simp) rfl
                clear haft
                obtain rfl := G rfl
                go_simp
                exact hK _ _ ⟨b0, b1, b2, b3, b4, b5, b6, true, true, b9, false, false, false, false, false, b15, false, _, _, rfl, rfl, Lib.hid ⟨fun _ => rfl, nofun, nofun, nofun⟩⟩
              refine StepsU.cons ?_ ?_
              · intro Q E0 listed a w' hI hM hk haft K hK
                obtain ⟨b0, b1, b2, b3, b4, b5, b6, b7, b8, b9, b10, b11, b12, b13, b14, b15, b16, x66, x67, hl, ha, HF⟩ := hI
                subst hl; subst ha
                obtain ⟨G, G13, G14, G16⟩ := HF.out
                clear HF
                have hk' : b9 = false := hk
                subst hk'
                clear hk
                obtain rfl : b10 = false := by cases b10 with | false => rfl | true => exact absurd (hM 10 9 rfl rfl) Bool.false_ne_true
                obtain rfl : b11 = false := by cases b11 with | false => rfl | true => exact absurd (hM 11 10 rfl rfl) Bool.false_ne_true
                obtain rfl : b12 = false := by cases b12 with | false => rfl | true => exact absurd (hM 12 11 rfl rfl) Bool.false_ne_true
                obtain rfl : b13 = false := by cases b13 with | false => rfl | true => exact absurd (hM 13 12 rfl rfl) Bool.false_ne_true
                obtain rfl : b14 = false := by cases b14 with | false => rfl | true => exact absurd (hM 14 13 rfl rfl) Bool.false_ne_true
                obtain rfl : b16 = false := by cases b16 with | false => rfl | true => exact absurd (hM 16 14 rfl rfl) Bool.false_ne_true
                clear haft
                obtain rfl := G rfl
                go_simp
                exact hK _ _ ⟨b0, b1, b2, b3, b4, b5, b6, b7, b8, true, false, false, false, false, false, b15, false, _, _, rfl, rfl, Lib.hid ⟨fun _ => rfl, nofun, nofun, nofun⟩⟩
              refine StepsU.cons ?_ ?_
              · intro Q E0 listed a w' hI hM hk haft K hK
                obtain ⟨b0, b1, b2, b3, b4, b5, b6, b7, b8, b9, b10, b11, b12, b13, b14, b15, b16, x66, x67, hl, ha, HF⟩ := hI
                subst hl; subst ha
                obtain ⟨G, G13, G14, G16⟩ := HF.out
                clear HF
                have hk' : b10 = false := hk
                subst hk'
                clear hk
                obtain rfl : b11 = false := by cases b11 with | false => rfl | true => exact absurd (hM 11 10 rfl rfl) Bool.false_ne_true
                obtain rfl : b12 = false := by cases b12 with | false => rfl | true => exact absurd (hM 12 11 rfl rfl) Bool.false_ne_true
                obtain rfl : b13 = false := by cases b13 with | false => rfl | true => exact absurd (hM 13 12 rfl rfl) Bool.false_ne_true
                obtain rfl : b14 = false := by cases b14 with | false => rfl | true => exact absurd (hM 14 13 rfl rfl) Bool.false_ne_true
                obtain rfl : b16 = false := by cases b16 with | false => rfl | true => exact absurd (hM 16 14 rfl rfl) Bool.false_ne_true
                obtain rfl : b8 = true := haft ⟨8, .data⟩ (by simp) rfl
                obtain rfl : b9 = true := haft ⟨9, .data⟩ (by simp) rfl
                obtain rfl : b7 = true := hM 8 7 rfl rfl
                clear haft
                obtain rfl := G rfl
                go_simp
                exact hK _ _ ⟨b0, b1, b2, b3, b4, b5, b6, true, true, true, true, false, false, false, false, b15, false, _, _, rfl, rfl, Lib.hid ⟨fun _ => rfl, nofun, nofun, nofun⟩⟩
              refine StepsU.cons ?_ ?_
              · intro Q E0 listed a w' hI hM hk haft K hK
                obtain ⟨b0, b1, b2, b3, b4, b5, b6, b7, b8, b9, b10, b11, b12, b13, b14, b15, b16, x66, x67, hl, ha, HF⟩ := hI
                subst hl; subst ha
                obtain ⟨G, G13, G14, G16⟩ := HF.out
                clear HF
                have hk' : b11 = false := hk
                subst hk'
                clear hk
                obtain rfl : b12 = false := by cases b12 with | false => rfl | true => exact absurd (hM 12 11 rfl rfl) Bool.false_ne_true
                obtain rfl : b13 = false := by cases b13 with | false => rfl | true => exact absurd (hM 13 12 rfl rfl) Bool.false_ne_true
                obtain rfl : b14 = false := by cases b14 with | false => rfl | true => exact absurd (hM 14 13 rfl rfl) Bool.false_ne_true
                obtain rfl : b16 = false := by cases b16 with | false => rfl | true => exact absurd (hM 16 14 rfl rfl) Bool.false_ne_true
                obtain rfl : b10 = true := haft ⟨10, .data⟩ (by simp) rfl
                obtain rfl : b8 = true := hM 10 8 rfl rfl
                obtain rfl : b9 = true := hM 10 9 rfl rfl
                obtain rfl : b7 = true := hM 8 7 rfl rfl
                clear haft
                obtain rfl := G rfl
                go_simp
                exact hK _ _ ⟨b0, b1, b2, b3, b4, b5, b6, true, true, true, true, true, false, false, false, b15, false, _, _, rfl, rfl, Lib.hid ⟨fun _ => rfl, nofun, nofun, nofun⟩⟩
              refine StepsU.cons ?_ ?_
              · intro Q E0 listed a w' hI hM hk haft K hK
                obtain ⟨b0, b1, b2, b3, b4, b5, b6, b7, b8, b9, b10, b11, b12, b13, b14, b15, b16, x66, x67, hl, ha, HF⟩ := hI
                subst hl; subst ha
                obtain ⟨G, G13, G14, G16⟩ := HF.out
                clear HF
                have hk' : b12 = false := hk
                subst hk'
                clear hk
                obtain rfl : b13 = false := by cases b13 with | false => rfl | true => exact absurd (hM 13 12 rfl rfl) Bool.false_ne_true
                obtain rfl : b14 = false := by cases b14 with | false => rfl | true => exact absurd (hM 14 13 rfl rfl) Bool.false_ne_true
                obtain rfl : b16 = false := by cases b16 with | false => rfl | true => exact absurd (hM 16 14 rfl rfl) Bool.false_ne_true
                obtain rfl : b6 = true := haft ⟨6, .data⟩ (by simp) rfl
                obtain rfl : b11 = true := haft ⟨11, .data⟩ (by simp) rfl
                obtain rfl : b5 = true := hM 6 5 rfl rfl
                obtain rfl : b10 = true := hM 11 10 rfl rfl
                obtain rfl : b3 = true := hM 5 3 rfl rfl
                obtain rfl : b4 = true := hM 5 4 rfl rfl
                obtain rfl : b8 = true := hM 10 8 rfl rfl
                obtain rfl : b9 = true := hM 10 9 rfl rfl
                obtain rfl : b2 = true := hM 3 2 rfl rfl
                obtain rfl : b7 = true := hM 8 7 rfl rfl
                clear haft
                obtain rfl := G rfl
                go_simp
                exact hK _ _ ⟨b0, b1, true, true, true, true, true, true, true, true, true, true, true, false, false, b15, false, _, _, rfl, rfl, Lib.hid ⟨fun _ => rfl, nofun, nofun, nofun⟩⟩
              refine StepsU.cons ?_ ?_
              · intro Q E0 listed a w' hI hM hk haft K hK
                obtain ⟨b0, b1, b2, b3, b4, b5, b6, b7, b8, b9, b10, b11, b12, b13, b14, b15, b16, x66, x67, hl, ha, HF⟩ := hI
                subst hl; subst ha
                obtain ⟨G, G13, G14, G16⟩ := HF.out
                clear HF
                have hk' : b13 = false := hk
                subst hk'
                clear hk
                obtain rfl : b14 = false := by cases b14 with | false => rfl | true => exact absurd (hM 14 13 rfl rfl) Bool.false_ne_true
                obtain rfl : b16 = false := by cases b16 with | false => rfl | true => exact absurd (hM 16 14 rfl rfl) Bool.false_ne_true
                obtain rfl : b12 = true := haft ⟨12, .data⟩ (by simp) rfl
                obtain rfl : b6 = true := hM 12 6 rfl rfl
                obtain rfl : b11 = true := hM 12 11 rfl rfl
                obtain rfl : b5 = true := hM 6 5 rfl rfl
                obtain rfl : b10 = true := hM 11 10 rfl rfl
                obtain rfl : b3 = true := hM 5 3 rfl rfl
                obtain rfl : b4 = true := hM 5 4 rfl rfl
                obtain rfl : b8 = true := hM 10 8 rfl rfl
                obtain rfl : b9 = true := hM 10 9 rfl rfl
                obtain rfl : b2 = true := hM 3 2 rfl rfl
                obtain rfl : b7 = true := hM 8 7 rfl rfl
                clear haft
                obtain rfl := G rfl
                go_simp
                exact hK _ _ ⟨b0, b1, true, true, true, true, true, true, true, true, true, true, true, true, false, b15, false, _, _, rfl, rfl, Lib.hid ⟨nofun, fun _ _ => ⟨rfl, rfl⟩, nofun, nofun⟩⟩
              refine StepsU.cons ?_ ?_
              · intro Q E0 listed a w' hI hM hk haft K hK
                obtain ⟨b0, b1, b2, b3, b4, b5, b6, b7, b8, b9, b10, b11, b12, b13, b14, b15, b16, x66, x67, hl, ha, HF⟩ := hI
                subst hl; subst ha
                obtain ⟨G, G13, G14, G16⟩ := HF.out
                clear HF
                have hk' : b14 = false := hk
                subst hk'
                clear hk
                obtain rfl : b16 = false := by cases b16 with | false => rfl | true => exact absurd (hM 16 14 rfl rfl) Bool.false_ne_true
                obtain rfl : b1 = true := haft ⟨1, .data⟩ (by simp) rfl
                obtain rfl : b13 = true := haft ⟨13, .data⟩ (by simp) rfl
                obtain rfl : b0 = true := hM 1 0 rfl rfl
                obtain rfl : b12 = true := hM 13 12 rfl rfl
                obtain rfl : b6 = true := hM 12 6 rfl rfl
                obtain rfl : b11 = true := hM 12 11 rfl rfl
                obtain rfl : b5 = true := hM 6 5 rfl rfl
                obtain rfl : b10 = true := hM 11 10 rfl rfl
                obtain rfl : b3 = true := hM 5 3 rfl rfl
                obtain rfl : b4 = true := hM 5 4 rfl rfl
                obtain rfl : b8 = true := hM 10 8 rfl rfl
                obtain rfl : b9 = true := hM 10 9 rfl rfl
                obtain rfl : b2 = true := hM 3 2 rfl rfl
                obtain rfl : b7 = true := hM 8 7 rfl rfl
                clear haft
                have hG := G13 rfl rfl
                obtain ⟨rfl, rfl⟩ := hG
                refine stepAppAt elMove (by decide) rfl (.tmp 54) (.tmp 66) rfl W.heap.size _ _ _ [.int .i64 xo, .int .i64 (-1), .int .i64 x] _ wr.heap.size rfl rfl (HXD.out.mv.alloc _) (by exact blkNew _ _ rfl) rfl (by simp [Value.oneCell']) (by have := hml.out; have := Hnm.out; omega) (by have h1 : W.heap.size ≤ wr.heap.size := HXD.out.sz; simp; omega) ?_
                intro g7 cap7 w7 ho7 hg7 hat7
                have hg8 : wr.drew.grownBy w7 (Value.slice am nm cm).ownBlock := grownTrans (grownBel ((Below.refl _ _).alloc (Nat.le_refl _) _)) hg7
                have ho8 : Own3 w7 W.heap.size 40 (.slice (some ⟨g7, 0, none⟩) (ms.length + 1) cap7) (ms ++ [(xo, -1, x)]) := by unfold Own3; rw [List.length_append, cells3_app]; exact ho7.out
                exact hK _ _ ⟨true, true, true, true, true, true, true, true, true, true, true, true, true, true, true, b15, false, _, _, rfl, rfl, Lib.hid ⟨nofun, fun _ => nofun, fun _ _ => ⟨g7, cap7, rfl, ho8, hg8⟩, nofun⟩⟩
              refine StepsU.cons ?_ ?_
              · intro Q E0 listed a w' hI hM hk haft K hK
                obtain ⟨b0, b1, b2, b3, b4, b5, b6, b7, b8, b9, b10, b11, b12, b13, b14, b15, b16, x66, x67, hl, ha, HF⟩ := hI
                subst hl; subst ha
                obtain ⟨G, G13, G14, G16⟩ := HF.out
                clear HF
                have hk' : b15 = false := hk
                subst hk'
                clear hk
                obtain rfl : b16 = false := by cases b16 with | false => rfl | true => exact absurd (hM 16 15 rfl rfl) Bool.false_ne_true
                clear haft
                go_simp
                exact hK _ _ ⟨b0, b1, b2, b3, b4, b5, b6, b7, b8, b9, b10, b11, b12, b13, b14, true, false, _, _, rfl, rfl, Lib.hid ⟨G, G13, G14, nofun⟩⟩
              refine StepsU.cons ?_ ?_
              · intro Q E0 listed a w' hI hM hk haft K hK
                obtain ⟨b0, b1, b2, b3, b4, b5, b6, b7, b8, b9, b10, b11, b12, b13, b14, b15, b16, x66, x67, hl, ha, HF⟩ := hI
                subst hl; subst ha
                obtain ⟨G, G13, G14, G16⟩ := HF.out
                clear HF
                have hk' : b16 = false := hk
                subst hk'
                clear hk
                obtain rfl : b14 = true := haft ⟨14, .data⟩ (by simp) rfl
                obtain rfl : b15 = true := haft ⟨15, .data⟩ (by simp) rfl
                obtain rfl : b1 = true := hM 14 1 rfl rfl
                obtain rfl : b13 = true := hM 14 13 rfl rfl
                obtain rfl : b0 = true := hM 1 0 rfl rfl
                obtain rfl : b12 = true := hM 13 12 rfl rfl
                obtain rfl : b6 = true := hM 12 6 rfl rfl
                obtain rfl : b11 = true := hM 12 11 rfl rfl
                obtain rfl : b5 = true := hM 6 5 rfl rfl
                obtain rfl : b10 = true := hM 11 10 rfl rfl
                obtain rfl : b3 = true := hM 5 3 rfl rfl
                obtain rfl : b4 = true := hM 5 4 rfl rfl
                obtain rfl : b8 = true := hM 10 8 rfl rfl
                obtain rfl : b9 = true := hM 10 9 rfl rfl
                obtain rfl : b2 = true := hM 3 2 rfl rfl
                obtain rfl : b7 = true := hM 8 7 rfl rfl
                clear haft
                have hG := G14 rfl rfl
                obtain ⟨g7, cap7, rfl, ho8, hg8⟩ := hG
                have HX7 := HXD.out.addM hg8 ho8
                have b4' := HXD.out.hdM hg8
                obtain ⟨_, e1', _, _⟩ := blk4 b4'
                have f1' := blkFz b4' 1
                have h07 := blkGrow hg8 h02.out (fun e => ownNe HXD.out.mv h02.out (by decide) e.symm)
                have h17 := blkGrow hg8 h12.out (fun e => ownNe HXD.out.mv h12.out (by decide) e.symm)
                have h27 := blkGrow hg8 h22.out (fun e => ownNe HXD.out.mv h22.out (by decide) e.symm)
                go_simp
                exact hK _ _ ⟨true, true, true, true, true, true, true, true, true, true, true, true, true, true, true, true, true, _, _, rfl, rfl, Lib.hid ⟨nofun, fun _ => nofun, fun _ => nofun, fun _ => ⟨_, HX7, blkSet h07 (by have := Hgw.out; omega), blkSet h17 (by have := Hgw.out; omega), blkSet h27 (by have := Hgw.out; omega)⟩⟩⟩
              exact StepsU.nil
            · intro G0 hG0 listed a w' hI hall
              obtain ⟨b0, b1, b2, b3, b4, b5, b6, b7, b8, b9, b10, b11, b12, b13, b14, b15, b16, x66, x67, hl, ha, HF⟩ := hI
              subst hl; subst ha
              obtain rfl : b0 = true := hall 0 (by decide)
              obtain rfl : b1 = true := hall 1 (by decide)
              obtain rfl : b2 = true := hall 2 (by decide)
              obtain rfl : b3 = true := hall 3 (by decide)
              obtain rfl : b4 = true := hall 4 (by decide)
              obtain rfl : b5 = true := hall 5 (by decide)
              obtain rfl : b6 = true := hall 6 (by decide)
              obtain rfl : b7 = true := hall 7 (by decide)
              obtain rfl : b8 = true := hall 8 (by decide)
              obtain rfl : b9 = true := hall 9 (by decide)
              obtain rfl : b10 = true := hall 10 (by decide)
              obtain rfl : b11 = true := hall 11 (by decide)
              obtain rfl : b12 = true := hall 12 (by decide)
              obtain rfl : b13 = true := hall 13 (by decide)
              obtain rfl : b14 = true := hall 14 (by decide)
              obtain rfl : b15 = true := hall 15 (by decide)
              obtain rfl : b16 = true := hall 16 (by decide)
              exact hG0 _ _ _ (HF.out.2.2.2 rfl)
            · intro x66 x67 w' hFin
              obtain ⟨vm', hS', hw0, hw1, hw2⟩ := hFin
              clear d1D d2D d3D c0D e1D m0D moD y2D d1 e1 m0 mo c0 d2 d3 e0 e2 e3 y0 y1 y2 y3 HXD h02 h12 h22
              go_wp2
              go_roundw
              case rel => exact ⟨k + 1, _, by omega, by go_num, by rw [Hms.out]; exact hS', hw0, hw1, hw2⟩
              case measure => simp [intOf]; omega
          · obtain rfl : k = X.firsts.length := by omega
            rw [List.take_length, ← HMS.out] at hs
            go_wp2
            go_roundw
            case rel => exact ⟨o + 1, vm, by omega, by go_num, hs, h0, h1, h2⟩
            case measure => simp [intOf]; omega
      · obtain rfl : o = A.ends.length := by omega
        rw [List.take_length] at hs
        obtain ⟨E, hE⟩ : ∃ E, E = joinD A B := ⟨_, rfl⟩
        rw [← hE] at HN HBn HD
        have HO9 : Hid (NfaO w.heap.size wr vm vf ve E) := Lib.hid (by rw [HD.out]; exact hs.out.o Hb0.out.size (Nat.le_refl _))
        have hEs : X.states = E.states := by rw [HD.out]
        clear hE HO
        obtain ⟨a1', n1', ca1', rfl⟩ := HO9.out.1.sl
        obtain ⟨a2', n2', ca2', rfl⟩ := HO9.out.2.1.sl
        obtain ⟨a3', n3', ca3', rfl⟩ := HO9.out.2.2.1.sl
        obtain ⟨e0, e1, e2, e3⟩ := blk4 hs.out.hd
        rw [hEs] at e0
        clear hEs HD
        replace Hb0 := Lib.hid (HAW.out _ hs.out.bel)
        have hsz := Hb0.out.size
        replace k2 := h2
        have HO := HO9
        clear hs h0 h1 h2 HO9
        go_wp2_with fail
        clear c0 d1 d2 d3 e0 e1 e2 e3
        refine (l13Limit_c _ _ _ E wr HO.out.w.rd).mono ?_
        rintro e w9 ⟨vm', vf', ve', rfl, hb, hc⟩
        have HO3 := Lib.hid (CK.o hc HO.out hb)
        replace Hb0 := Lib.hid (Hb0.out.trans (hb.mono Hb0.out.size))
        replace k2 := Lib.hid (blkBel hb k2.out)
        clear hb hc HO
        obtain ⟨a1', n1, ca1, rfl⟩ := HO3.out.1.sl
        obtain ⟨a2', n2, ca2, rfl⟩ := HO3.out.2.1.sl
        obtain ⟨a3', n3, ca3, rfl⟩ := HO3.out.2.2.1.sl
        obtain ⟨x, hx⟩ : ∃ x, x = (chkN E).states := ⟨_, rfl⟩
        obtain ⟨y, hy⟩ : ∃ y, y = chkB E := ⟨_, rfl⟩
        rw [← hx, ← hy]
        have Hx := Lib.hid hx; have Hy := Lib.hid hy; clear hx hy
        obtain ⟨e0, e1, e2, e3⟩ := blk4 k2.out
        have g1 := blkFz k2.out
        go_wp2
        refine bodyPost_ret (v := .tuple #[.agg #[.int .i64 x, .slice a1' n1 ca1, .slice a2' n2 ca2, .slice a3' n3 ca3], .bool y]) (by simp [results, Try.results138, go_sem, e0, e1, e2, e3, g1]) rfl ⟨_, _, _, by rw [HN.out, HBn.out, Hx.out, Hy.out], bel4 Hb0.out (by omega) _ _ _ _, ?_⟩
        rw [HN.out]
        exact HO3.out.set4 _ (by omega) k2.out (by decide) _ _ _ _
end Go.Proofs.Ytbcjhiponbfbnaa
