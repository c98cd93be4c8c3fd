/- NfaEither: the reference's answer. -/
import Derived.Test.YtbcjhiponbfbnaaChk
import Derived.Test.YtbcjhiponbfbnaaEjd
import Derived.Test.YtbcjhiponbfbnaaSjd
set_option linter.unusedSimpArgs false
set_option linter.unusedVariables false
set_option linter.unusedSectionVars false
namespace Go.Proofs.Ytbcjhiponbfbnaa
open Go.RowKit
set_option maxRecDepth 100000
variable {S T : Nat → Prop}
set_option maxHeartbeats 8000000 in
theorem sNfaEither_c (vma vfa vea vmb vfb veb : Value) (A B : NfaD) (w : World) (hA : NfaR S w vma vfa vea A) (hB : NfaR T w vmb vfb veb B) :
    Calls Try.prog 137 #[.agg #[.int .i64 A.states, vma, vfa, vea], .agg #[.int .i64 B.states, vmb, vfb, veb]] w (RNb w (eiN A B) (eiB A B)) := by
  obtain ⟨a1a, c1a, a2a, c2a, a3a, c3a, rfl, rfl, rfl, _, _, _⟩ := hA.shapes
  obtain ⟨a1b, c1b, a2b, c2b, a3b, c3b, rfl, rfl, rfl, _, _, _⟩ := hB.shapes
  obtain ⟨W, hW⟩ : ∃ W, W = ((w.alloc (.cells #[.int .i64 A.states, .slice a1a A.moves.length c1a, .slice a2a A.firsts.length c2a, .slice a3a A.ends.length c3a] 36)).alloc (.cells #[.int .i64 B.states, .slice a1b B.moves.length c1b, .slice a2b B.firsts.length c2b, .slice a3b B.ends.length c3b] 36)).alloc (.cells #[.int .i64 0, .slice none 0 0, .slice none 0 0, .slice none 0 0] 36) := ⟨_, rfl⟩
  have Hb0 : Hid (Below w.heap.size w W) := by rw [hW]; exact (((Below.refl _ _).alloc (Nat.le_refl _) _).alloc (by simp) _).alloc (by simp; omega) _
  have k0 : Hid (W.heap[w.heap.size]? = some (.cells #[.int .i64 A.states, .slice a1a A.moves.length c1a, .slice a2a A.firsts.length c2a, .slice a3a A.ends.length c3a] 36 (0, 0))) := by rw [hW]; exact blkOld (blkOld (blkNew _ _ rfl))
  have k1 : Hid (W.heap[w.heap.size + 1]? = some (.cells #[.int .i64 B.states, .slice a1b B.moves.length c1b, .slice a2b B.firsts.length c2b, .slice a3b B.ends.length c3b] 36 (0, 0))) := by rw [hW]; exact blkOld (blkNew _ _ (by simp))
  have k2 : Hid (W.heap[w.heap.size + 2]? = some (.cells #[.int .i64 0, .slice none 0 0, .slice none 0 0, .slice none 0 0] 36 (0, 0))) := by rw [hW]; exact blkNew _ _ (by simp)
  have hz : Hid (W.heap.size = w.heap.size + 3) := by rw [hW]; simp [Hid]
  have HA := Lib.hid hA; have HB := Lib.hid hB; clear hA hB
  have HW := Lib.hid hW; clear hW
  go_enter Try.func137, Try.ntmps137
  go_wp2_with fail
  rw [← HW.out]
  clear HW
  obtain ⟨c0, d1, d2, d3⟩ := blk4 k0.out
  go_wp2_with fail
  clear c0 d1 d2 d3
  refine (sNfaValid_c _ _ _ A W (HA.out.stay (kpB Hb0.out))).mono ?_
  rintro e w1 ⟨b1, rfl, hb, hv⟩
  replace Hb0 := Lib.hid (Hb0.out.trans (hb.mono Hb0.out.size))
  replace k0 := Lib.hid (blkBel hb k0.out)
  replace k1 := Lib.hid (blkBel hb k1.out)
  replace k2 := Lib.hid (blkBel hb k2.out)
  have hz1 := hb.size; clear hb
  cases b1
  · have HN := Lib.hid (eiN_no (A := A) (B := B) (fun h => hbF hv h.1)); have HBn := Lib.hid (eiB_no (A := A) (B := B) (fun h => hbF hv h.1)); clear hv
    obtain ⟨e0, e1, e2, e3⟩ := blk4 k2.out
    have g1 := blkFz k2.out
    go_wp2
    refine bodyPost_ret (v := .tuple #[.agg #[.int .i64 0, .slice none 0 0, .slice none 0 0, .slice none 0 0], .bool false]) (by simp [results, Try.results137, go_sem, e0, e1, e2, e3, g1]) rfl ⟨_, _, _, by rw [HN.out, HBn.out]; rfl, bel4 Hb0.out (by omega) _ _ _ _, by rw [HN.out]; exact NfaO.nil _ _⟩
  have HOA := Lib.hid (hbT hv); clear hv
  obtain ⟨c0, d1, d2, d3⟩ := blk4 k1.out
  go_wp2_with fail
  clear c0 d1 d2 d3
  refine (sNfaValid_c _ _ _ B w1 (HB.out.stay (kpB Hb0.out))).mono ?_
  rintro e w2 ⟨b1, rfl, hb, hv⟩
  replace Hb0 := Lib.hid (Hb0.out.trans (hb.mono Hb0.out.size))
  replace k0 := Lib.hid (blkBel hb k0.out)
  replace k1 := Lib.hid (blkBel hb k1.out)
  replace k2 := Lib.hid (blkBel hb k2.out)
  have hz2 := hb.size; clear hb
  cases b1
  · have HN := Lib.hid (eiN_no (A := A) (B := B) (fun h => hbF hv h.2)); have HBn := Lib.hid (eiB_no (A := A) (B := B) (fun h => hbF hv h.2)); clear hv
    obtain ⟨e0, e1, e2, e3⟩ := blk4 k2.out
    have g1 := blkFz k2.out
    go_wp2
    refine bodyPost_ret (v := .tuple #[.agg #[.int .i64 0, .slice none 0 0, .slice none 0 0, .slice none 0 0], .bool false]) (by simp [results, Try.results137, go_sem, e0, e1, e2, e3, g1]) rfl ⟨_, _, _, by rw [HN.out, HBn.out]; rfl, bel4 Hb0.out (by omega) _ _ _ _, by rw [HN.out]; exact NfaO.nil _ _⟩
  have HOB := Lib.hid (hbT hv); clear hv
  have HN := Lib.hid (eiN_yes HOA.out HOB.out); have HBn := Lib.hid (eiB_yes HOA.out HOB.out)
  obtain ⟨c0, d1, d2, d3⟩ := blk4 k0.out
  obtain ⟨c0', d1', d2', d3'⟩ := blk4 k1.out
  have hsA := Lib.hid HOA.out.1
  go_wp2_with fail
  clear c0 d1 d2 d3 c0' d1' d2' d3'
  refine (l13Shift_c _ _ _ B A.states w2 (HB.out.stay (kpB Hb0.out)) HOB.out hsA.out).mono ?_
  rintro e w3 ⟨vm, vf, ve, rfl, hb, ho⟩
  have hz3 : w.heap.size ≤ w2.heap.size := Hb0.out.size
  obtain ⟨X, hX⟩ : ∃ X, X = shD B A.states := ⟨_, rfl⟩
  rw [← hX] at ho ⊢
  have HX := Lib.hid hX; clear hX
  have HO := Lib.hid (ho.out.base (base' := w.heap.size) hz3); clear ho
  obtain ⟨a1x, c1x, a2x, c2x, a3x, c3x, rfl, rfl, rfl, _, _, _⟩ := HO.out.w.rd.shapes
  obtain ⟨W, hW⟩ : ∃ W, W = w3.alloc (.cells #[.int .i64 X.states, .slice a1x X.moves.length c1x, .slice a2x X.firsts.length c2x, .slice a3x X.ends.length c3x] 36) := ⟨_, rfl⟩
  have hbW : Below w3.heap.size w3 W := by rw [hW]; exact (Below.refl _ _).alloc (Nat.le_refl _) _
  obtain ⟨bx, hbx⟩ : ∃ bx, bx = w3.heap.size := ⟨_, rfl⟩
  have kx : Hid (W.heap[bx]? = some (.cells #[.int .i64 X.states, .slice a1x X.moves.length c1x, .slice a2x X.firsts.length c2x, .slice a3x X.ends.length c3x] 36 (0, 0))) := by rw [hW, hbx]; exact blkNew _ _ rfl
  have hbel : Below w2.heap.size w2 W := hb.trans (hbW.mono hb.size)
  replace Hb0 := Lib.hid (Hb0.out.trans (hbel.mono hz3))
  replace k0 := Lib.hid (blkBel hbel k0.out)
  replace k2 := Lib.hid (blkBel hbel k2.out)
  replace HO := Lib.hid (HO.out.stay hbW)
  have HWz : Hid (w.heap.size + 2 < bx ∧ bx < W.heap.size) := Lib.hid ⟨by have h1 := hb.size; have h2 := hz.out; rw [hbx]; omega, (Array.getElem?_eq_some_iff.1 kx.out).1⟩
  have HW := Lib.hid hW
  have Hbx := Lib.hid hbx
  clear hW hbW hbel hb k1 hbx
  have HLA := Lib.hid (okN_len HOA.out)
  have HLX : Hid (X.moves.length ≤ 400 ∧ X.firsts.length ≤ 40 ∧ X.ends.length ≤ 40) := Lib.hid (by have := okN_len HOB.out; rw [HX.out]; unfold shD; simpa using this)
  have HA3 := Lib.hid (HA.out.stay (kpB Hb0.out))
  obtain ⟨mx, HMX⟩ : ∃ mx, Hid (A.moves ++ X.moves = mx) := ⟨_, rfl⟩
  obtain ⟨fx, HFX⟩ : ∃ fx, Hid (A.firsts ++ X.firsts = fx) := ⟨_, rfl⟩
  obtain ⟨ex, HEX⟩ : ∃ ex, Hid (A.ends ++ X.ends = ex) := ⟨_, rfl⟩
  have HMXL : Hid (A.moves.length + X.moves.length = mx.length) := Lib.hid (by rw [← HMX.out, List.length_append])
  have HFXL : Hid (A.firsts.length + X.firsts.length = fx.length) := Lib.hid (by rw [← HFX.out, List.length_append])
  have HEXL : Hid (A.ends.length + X.ends.length = ex.length) := Lib.hid (by rw [← HEX.out, List.length_append])
  have HE : Hid (eitherD A B = ⟨X.states, mx, fx, ex⟩) := Lib.hid (by rw [← HMX.out, ← HFX.out, ← HEX.out, HX.out]; unfold eitherD shD; rw [Int.add_comm])
  obtain ⟨Es, HEs⟩ : ∃ Es, Hid ((chkN ⟨X.states, mx, fx, ex⟩).states = Es) := ⟨_, rfl⟩
  obtain ⟨Yb, HYb⟩ : ∃ Yb, Hid (chkB ⟨X.states, mx, fx, ex⟩ = Yb) := ⟨_, rfl⟩
  have hbs := Hb0.out.size
  go_wp2_with (rw [← HW.out])
  rw [← Hbx.out]
  clear HW Hbx
  have HK : Hid (∀ w', Below W.heap.size W w' → (w'.cell? ⟨w.heap.size, 0, none⟩ = some (.int .i64 A.states) ∧ w'.cell? ⟨w.heap.size, 1, none⟩ = some (.slice a1a A.moves.length c1a) ∧ w'.cell? ⟨w.heap.size, 2, none⟩ = some (.slice a2a A.firsts.length c2a) ∧ w'.cell? ⟨w.heap.size, 3, none⟩ = some (.slice a3a A.ends.length c3a)) ∧
      (w'.cell? ⟨bx, 0, none⟩ = some (.int .i64 X.states) ∧ w'.cell? ⟨bx, 1, none⟩ = some (.slice a1x X.moves.length c1x) ∧ w'.cell? ⟨bx, 2, none⟩ = some (.slice a2x X.firsts.length c2x) ∧ w'.cell? ⟨bx, 3, none⟩ = some (.slice a3x X.ends.length c3x))) := fun w' hb => ⟨blk4 (blkBel hb k0.out), blk4 (blkBel hb kx.out)⟩
  refine wp_region_inv2 [(1, 0), (4, 3), (5, 2), (5, 4), (7, 6), (8, 5), (8, 7), (11, 10), (12, 9), (12, 11), (14, 13), (15, 12), (15, 14), (18, 17), (19, 16), (19, 18), (21, 20), (22, 19), (22, 21), (23, 1), (23, 8), (23, 15), (23, 22), (24, 23), (25, 24), (26, 24), (27, 0), (27, 1), (27, 2), (27, 3), (27, 4), (27, 5), (27, 6), (27, 7), (27, 8), (27, 9), (27, 10), (27, 11), (27, 12), (27, 13), (27, 14), (27, 15), (27, 16), (27, 17), (27, 18), (27, 19), (27, 20), (27, 21), (27, 22), (27, 23), (27, 24), (27, 25), (27, 26), (28, 0), (28, 1), (28, 2), (28, 3), (28, 4), (28, 5), (28, 6), (28, 7), (28, 8), (28, 9), (28, 10), (28, 11), (28, 12), (28, 13), (28, 14), (28, 15), (28, 16), (28, 17), (28, 18), (28, 19), (28, 20), (28, 21), (28, 22), (28, 23), (28, 24), (28, 25), (28, 26)] (fun listed a w' => ∃ (vb : Vb) (vx : Vx) (vr : Vr), listed = #[vb.b0, vb.b1, vb.b2, vb.b3, vb.b4, vb.b5, vb.b6, vb.b7, vb.b8, vb.b9, vb.b10, vb.b11, vb.b12, vb.b13, vb.b14, vb.b15, vb.b16, vb.b17, vb.b18, vb.b19, vb.b20, vb.b21, vb.b22, vb.b23, vb.b24, vb.b25, vb.b26, vb.b27, vb.b28] ∧ a = { tmps := #[Value.agg #[Value.int IntKind.i64 A.states, Value.slice a1a A.moves.length c1a, Value.slice a2a A.firsts.length c2a, Value.slice a3a A.ends.length c3a], Value.agg #[Value.int IntKind.i64 B.states, Value.slice a1b B.moves.length c1b, Value.slice a2b B.firsts.length c2b, Value.slice a3b B.ends.length c3b], Value.pointer (some { block := w.heap.size, off := 0 }), Value.pointer (some { block := w.heap.size + 1, off := 0 }), Value.pointer (some { block := w.heap.size + 1 + 1, off := 0 }), vx.x0, Value.pointer (some { block := bx, off := 0 }), Value.agg #[Value.int IntKind.i64 A.states, Value.slice a1a A.moves.length c1a, Value.slice a2a A.firsts.length c2a, Value.slice a3a A.ends.length c3a], Value.bool true, Value.bool false, Value.bool false, Value.agg #[Value.int IntKind.i64 B.states, Value.slice a1b B.moves.length c1b, Value.slice a2b B.firsts.length c2b, Value.slice a3b B.ends.length c3b], Value.bool true, Value.bool false, Value.bool false, undef, Value.agg #[Value.int IntKind.i64 B.states, Value.slice a1b B.moves.length c1b, Value.slice a2b B.firsts.length c2b, Value.slice a3b B.ends.length c3b], Value.pointer (some { block := w.heap.size, off := 0 }), Value.int IntKind.i64 A.states, Value.agg #[Value.int IntKind.i64 X.states, Value.slice a1x X.moves.length c1x, Value.slice a2x X.firsts.length c2x, Value.slice a3x X.ends.length c3x], cond vb.b0 (.pointer (some ⟨bx, 0, none⟩)) (undef), cond vb.b1 (.int .i64 X.states) (undef), vx.x1, cond vb.b3 (.pointer (some ⟨w.heap.size, 1, none⟩)) (undef), cond vb.b4 (.slice a1a A.moves.length c1a) (undef), vx.x2, cond vb.b6 (.pointer (some ⟨bx, 1, none⟩)) (undef), cond vb.b7 (.slice a1x X.moves.length c1x) (undef), vx.x3, vx.x4, cond vb.b10 (.pointer (some ⟨w.heap.size, 2, none⟩)) (undef), cond vb.b11 (.slice a2a A.firsts.length c2a) (undef), vx.x5, cond vb.b13 (.pointer (some ⟨bx, 2, none⟩)) (undef), cond vb.b14 (.slice a2x X.firsts.length c2x) (undef), vx.x6, vx.x7, cond vb.b17 (.pointer (some ⟨w.heap.size, 3, none⟩)) (undef), cond vb.b18 (.slice a3a A.ends.length c3a) (undef), vx.x8, cond vb.b20 (.pointer (some ⟨bx, 3, none⟩)) (undef), cond vb.b21 (.slice a3x X.ends.length c3x) (undef), vx.x9, cond vb.b23 (.agg #[.int .i64 X.states, vx.x3, vx.x6, vx.x9]) (undef), vx.x10, vx.x11, vx.x12], defers := [] } ∧ Hid ((vb.b2 = false → vr.r0 = none) ∧ (vb.b2 = true → ∃ (g : Nat) (c : Nat), vx.x1 = .slice (some ⟨g, 0, none⟩) (0) c ∧ (vb.b5 = false → vr.r0 = some ⟨40, 3, vx.x1, 0, []⟩)) ∧ (vb.b5 = true → ∃ (g : Nat) (c : Nat), vx.x2 = .slice (some ⟨g, 0, none⟩) (A.moves.length) c ∧ (vb.b8 = false → vr.r0 = some ⟨40, 3, vx.x2, A.moves.length, cells3 A.moves⟩)) ∧ (vb.b8 = true → ∃ (g : Nat) (c : Nat), vx.x3 = .slice (some ⟨g, 0, none⟩) (mx.length) c ∧ vr.r0 = some ⟨40, 3, vx.x3, mx.length, cells3 mx⟩) ∧ (vb.b9 = false → vr.r1 = none) ∧ (vb.b9 = true → ∃ (g : Nat) (c : Nat), vx.x4 = .slice (some ⟨g, 0, none⟩) (0) c ∧ (vb.b12 = false → vr.r1 = some ⟨3, 1, vx.x4, 0, []⟩)) ∧ (vb.b12 = true → ∃ (g : Nat) (c : Nat), vx.x5 = .slice (some ⟨g, 0, none⟩) (A.firsts.length) c ∧ (vb.b15 = false → vr.r1 = some ⟨3, 1, vx.x5, A.firsts.length, A.firsts.map (.int .i64 ·)⟩)) ∧ (vb.b15 = true → ∃ (g : Nat) (c : Nat), vx.x6 = .slice (some ⟨g, 0, none⟩) (fx.length) c ∧ vr.r1 = some ⟨3, 1, vx.x6, fx.length, fx.map (.int .i64 ·)⟩) ∧ (vb.b16 = false → vr.r2 = none) ∧ (vb.b16 = true → ∃ (g : Nat) (c : Nat), vx.x7 = .slice (some ⟨g, 0, none⟩) (0) c ∧ (vb.b19 = false → vr.r2 = some ⟨3, 1, vx.x7, 0, []⟩)) ∧ (vb.b19 = true → ∃ (g : Nat) (c : Nat), vx.x8 = .slice (some ⟨g, 0, none⟩) (A.ends.length) c ∧ (vb.b22 = false → vr.r2 = some ⟨3, 1, vx.x8, A.ends.length, A.ends.map (.int .i64 ·)⟩)) ∧ (vb.b22 = true → ∃ (g : Nat) (c : Nat), vx.x9 = .slice (some ⟨g, 0, none⟩) (ex.length) c ∧ vr.r2 = some ⟨3, 1, vx.x9, ex.length, ex.map (.int .i64 ·)⟩) ∧ (vb.b24 = true → ∃ (p1 : Option Addr) (p2 p3 : Nat) (p4 : Option Addr) (p5 p6 : Nat) (p7 : Option Addr) (p8 p9 : Nat), vx.x10 = .tuple #[.agg #[.int .i64 Es, .slice p1 p2 p3, .slice p4 p5 p6, .slice p7 p8 p9], .bool Yb] ∧ (vb.b25 = true → vx.x11 = .agg #[.int .i64 Es, .slice p1 p2 p3, .slice p4 p5 p6, .slice p7 p8 p9]) ∧ (vb.b26 = true → vx.x12 = .bool Yb) ∧ (vb.b28 = true → vx.x0 = .bool Yb) ∧ (vb.b27 = false → (NfaO w.heap.size w' (.slice p1 p2 p3) (.slice p4 p5 p6) (.slice p7 p8 p9) (chkN ⟨X.states, mx, fx, ex⟩) ∧ Below w.heap.size w w' ∧ w'.heap[w.heap.size + 2]? = some (.cells #[.int .i64 0, .slice none 0 0, .slice none 0 0, .slice none 0 0] 36 (0, 0)))) ∧ (vb.b27 = true → (NfaO w.heap.size w' (.slice p1 p2 p3) (.slice p4 p5 p6) (.slice p7 p8 p9) (chkN ⟨X.states, mx, fx, ex⟩) ∧ Below w.heap.size w w' ∧ w'.heap[w.heap.size + 2]? = some (.cells #[.int .i64 Es, .slice p1 p2 p3, .slice p4 p5 p6, .slice p7 p8 p9] 36 (0, 0))))) ∧ (vb.b24 = false → Sr W w' none [vr.r0, vr.r1, vr.r2]))) (fun G => ∀ (x5 x22 x25 x28 x29 x32 x35 x36 x39 x42 x44 x45 x46 : Value) (w' : World), (∃ (p1 : Option Addr) (p2 p3 : Nat) (p4 : Option Addr) (p5 p6 : Nat) (p7 : Option Addr) (p8 p9 : Nat), x44 = .tuple #[.agg #[.int .i64 Es, .slice p1 p2 p3, .slice p4 p5 p6, .slice p7 p8 p9], .bool Yb] ∧ (true = true → x45 = .agg #[.int .i64 Es, .slice p1 p2 p3, .slice p4 p5 p6, .slice p7 p8 p9]) ∧ (true = true → x46 = .bool Yb) ∧ (true = true → x5 = .bool Yb) ∧ (true = false → (NfaO w.heap.size w' (.slice p1 p2 p3) (.slice p4 p5 p6) (.slice p7 p8 p9) (chkN ⟨X.states, mx, fx, ex⟩) ∧ Below w.heap.size w w' ∧ w'.heap[w.heap.size + 2]? = some (.cells #[.int .i64 0, .slice none 0 0, .slice none 0 0, .slice none 0 0] 36 (0, 0)))) ∧ (true = true → (NfaO w.heap.size w' (.slice p1 p2 p3) (.slice p4 p5 p6) (.slice p7 p8 p9) (chkN ⟨X.states, mx, fx, ex⟩) ∧ Below w.heap.size w w' ∧ w'.heap[w.heap.size + 2]? = some (.cells #[.int .i64 Es, .slice p1 p2 p3, .slice p4 p5 p6, .slice p7 p8 p9] 36 (0, 0))))) → G { tmps := #[Value.agg #[Value.int IntKind.i64 A.states, Value.slice a1a A.moves.length c1a, Value.slice a2a A.firsts.length c2a, Value.slice a3a A.ends.length c3a], Value.agg #[Value.int IntKind.i64 B.states, Value.slice a1b B.moves.length c1b, Value.slice a2b B.firsts.length c2b, Value.slice a3b B.ends.length c3b], Value.pointer (some { block := w.heap.size, off := 0 }), Value.pointer (some { block := w.heap.size + 1, off := 0 }), Value.pointer (some { block := w.heap.size + 1 + 1, off := 0 }), x5, Value.pointer (some { block := bx, off := 0 }), Value.agg #[Value.int IntKind.i64 A.states, Value.slice a1a A.moves.length c1a, Value.slice a2a A.firsts.length c2a, Value.slice a3a A.ends.length c3a], Value.bool true, Value.bool false, Value.bool false, Value.agg #[Value.int IntKind.i64 B.states, Value.slice a1b B.moves.length c1b, Value.slice a2b B.firsts.length c2b, Value.slice a3b B.ends.length c3b], Value.bool true, Value.bool false, Value.bool false, undef, Value.agg #[Value.int IntKind.i64 B.states, Value.slice a1b B.moves.length c1b, Value.slice a2b B.firsts.length c2b, Value.slice a3b B.ends.length c3b], Value.pointer (some { block := w.heap.size, off := 0 }), Value.int IntKind.i64 A.states, Value.agg #[Value.int IntKind.i64 X.states, Value.slice a1x X.moves.length c1x, Value.slice a2x X.firsts.length c2x, Value.slice a3x X.ends.length c3x], .pointer (some ⟨bx, 0, none⟩), .int .i64 X.states, x22, .pointer (some ⟨w.heap.size, 1, none⟩), .slice a1a A.moves.length c1a, x25, .pointer (some ⟨bx, 1, none⟩), .slice a1x X.moves.length c1x, x28, x29, .pointer (some ⟨w.heap.size, 2, none⟩), .slice a2a A.firsts.length c2a, x32, .pointer (some ⟨bx, 2, none⟩), .slice a2x X.firsts.length c2x, x35, x36, .pointer (some ⟨w.heap.size, 3, none⟩), .slice a3a A.ends.length c3a, x39, .pointer (some ⟨bx, 3, none⟩), .slice a3x X.ends.length c3x, x42, .agg #[.int .i64 X.states, x28, x35, x42], x44, x45, x46], defers := [] } w') (by kernel_rfl) (by kernel_rfl) (by kernel_rfl) (by kernel_rfl) ?_ ?_ ?_ ?_
  · exact ⟨⟨false, false, false, false, false, false, false, false, false, false, false, false, false, false, false, false, false, false, false, false, false, false, false, false, false, false, false, false, false, false, false, false⟩, ⟨Value.bool false, undef, undef, undef, undef, undef, undef, undef, undef, undef, undef, undef, undef, undef, undef, undef⟩, ⟨none, none, none, none, none, none, none, none, none⟩, rfl, rfl, Lib.hid ⟨fun _ => rfl, nofun, nofun, nofun, fun _ => rfl, nofun, nofun, nofun, fun _ => rfl, nofun, nofun, nofun, nofun, fun _ => Sr.start W 3⟩⟩
  · refine StepsU.cons ?_ ?_
    · intro Q E0 listed a w' hI hM hk haft K hK
      obtain ⟨⟨b0, b1, b2, b3, b4, b5, b6, b7, b8, b9, b10, b11, b12, b13, b14, b15, b16, b17, b18, b19, b20, b21, b22, b23, b24, b25, b26, b27, b28, b29_, b30_, b31_⟩, ⟨x5, x22, x25, x28, x29, x32, x35, x36, x39, x42, x44, x45, x46, xx13_, xx14_, xx15_⟩, ⟨hh, r0, r1, r2, r3, r4, r5, r6, r7⟩, hl, ha, HF⟩ := hI
      dsimp only at hl ha HF
      subst hl; subst ha
      obtain ⟨N0, P0_0, P0_1, P0_2, N1, P1_0, P1_1, P1_2, N2, P2_0, P2_1, P2_2, Z, HS⟩ := HF.out
      clear HF
      have hk' : b0 = false := hk
      subst hk'
      clear hk
      obtain rfl : b1 = false := by cases b1 with | false => rfl | true => exact absurd (hM 1 0 rfl rfl) Bool.false_ne_true
      obtain rfl : b23 = false := by cases b23 with | false => rfl | true => exact absurd (hM 23 1 rfl rfl) Bool.false_ne_true
      obtain rfl : b24 = false := by cases b24 with | false => rfl | true => exact absurd (hM 24 23 rfl rfl) Bool.false_ne_true
      obtain rfl : b25 = false := by cases b25 with | false => rfl | true => exact absurd (hM 25 24 rfl rfl) Bool.false_ne_true
      obtain rfl : b26 = false := by cases b26 with | false => rfl | true => exact absurd (hM 26 24 rfl rfl) Bool.false_ne_true
      obtain rfl : b27 = false := by cases b27 with | false => rfl | true => exact absurd (hM 27 0 rfl rfl) Bool.false_ne_true
      obtain rfl : b28 = false := by cases b28 with | false => rfl | true => exact absurd (hM 28 0 rfl rfl) Bool.false_ne_true
      clear haft
      have hSr := HS rfl
      have hBl := hSr.bel
      obtain ⟨⟨q0, q1, q2, q3⟩, ⟨p0, p1, p2, p3⟩⟩ := HK.out w' hBl
      go_simp
      exact hK _ _ ⟨⟨true, false, b2, b3, b4, b5, b6, b7, b8, b9, b10, b11, b12, b13, b14, b15, b16, b17, b18, b19, b20, b21, b22, false, false, false, false, false, false, false, false, false⟩, ⟨x5, x22, x25, x28, x29, x32, x35, x36, x39, x42, x44, x45, x46, undef, undef, undef⟩, ⟨hh, r0, r1, r2, none, none, none, none, none⟩, rfl, rfl, Lib.hid ⟨N0, P0_0, P0_1, P0_2, N1, P1_0, P1_1, P1_2, N2, P2_0, P2_1, P2_2, nofun, fun _ => hSr⟩⟩
    refine StepsU.cons ?_ ?_
    · intro Q E0 listed a w' hI hM hk haft K hK
      obtain ⟨⟨b0, b1, b2, b3, b4, b5, b6, b7, b8, b9, b10, b11, b12, b13, b14, b15, b16, b17, b18, b19, b20, b21, b22, b23, b24, b25, b26, b27, b28, b29_, b30_, b31_⟩, ⟨x5, x22, x25, x28, x29, x32, x35, x36, x39, x42, x44, x45, x46, xx13_, xx14_, xx15_⟩, ⟨hh, r0, r1, r2, r3, r4, r5, r6, r7⟩, hl, ha, HF⟩ := hI
      dsimp only at hl ha HF
      subst hl; subst ha
      obtain ⟨N0, P0_0, P0_1, P0_2, N1, P1_0, P1_1, P1_2, N2, P2_0, P2_1, P2_2, Z, HS⟩ := HF.out
      clear HF
      have hk' : b1 = false := hk
      subst hk'
      clear hk
      obtain rfl : b23 = false := by cases b23 with | false => rfl | true => exact absurd (hM 23 1 rfl rfl) Bool.false_ne_true
      obtain rfl : b24 = false := by cases b24 with | false => rfl | true => exact absurd (hM 24 23 rfl rfl) Bool.false_ne_true
      obtain rfl : b25 = false := by cases b25 with | false => rfl | true => exact absurd (hM 25 24 rfl rfl) Bool.false_ne_true
      obtain rfl : b26 = false := by cases b26 with | false => rfl | true => exact absurd (hM 26 24 rfl rfl) Bool.false_ne_true
      obtain rfl : b27 = false := by cases b27 with | false => rfl | true => exact absurd (hM 27 1 rfl rfl) Bool.false_ne_true
      obtain rfl : b28 = false := by cases b28 with | false => rfl | true => exact absurd (hM 28 1 rfl rfl) Bool.false_ne_true
      obtain rfl : b0 = true := haft ⟨0, .data⟩ (by simp) rfl
      clear haft
      have hSr := HS rfl
      have hBl := hSr.bel
      obtain ⟨⟨q0, q1, q2, q3⟩, ⟨p0, p1, p2, p3⟩⟩ := HK.out w' hBl
      go_simp
      exact hK _ _ ⟨⟨true, true, b2, b3, b4, b5, b6, b7, b8, b9, b10, b11, b12, b13, b14, b15, b16, b17, b18, b19, b20, b21, b22, false, false, false, false, false, false, false, false, false⟩, ⟨x5, x22, x25, x28, x29, x32, x35, x36, x39, x42, x44, x45, x46, undef, undef, undef⟩, ⟨hh, r0, r1, r2, none, none, none, none, none⟩, rfl, rfl, Lib.hid ⟨N0, P0_0, P0_1, P0_2, N1, P1_0, P1_1, P1_2, N2, P2_0, P2_1, P2_2, nofun, fun _ => hSr⟩⟩
    refine StepsU.cons ?_ ?_
    · intro Q E0 listed a w' hI hM hk haft K hK
      obtain ⟨⟨b0, b1, b2, b3, b4, b5, b6, b7, b8, b9, b10, b11, b12, b13, b14, b15, b16, b17, b18, b19, b20, b21, b22, b23, b24, b25, b26, b27, b28, b29_, b30_, b31_⟩, ⟨x5, x22, x25, x28, x29, x32, x35, x36, x39, x42, x44, x45, x46, xx13_, xx14_, xx15_⟩, ⟨hh, r0, r1, r2, r3, r4, r5, r6, r7⟩, hl, ha, HF⟩ := hI
      dsimp only at hl ha HF
      subst hl; subst ha
      obtain ⟨N0, P0_0, P0_1, P0_2, N1, P1_0, P1_1, P1_2, N2, P2_0, P2_1, P2_2, Z, HS⟩ := HF.out
      clear HF
      have hk' : b2 = false := hk
      subst hk'
      clear hk
      obtain rfl : b5 = false := by cases b5 with | false => rfl | true => exact absurd (hM 5 2 rfl rfl) Bool.false_ne_true
      obtain rfl : b8 = false := by cases b8 with | false => rfl | true => exact absurd (hM 8 5 rfl rfl) Bool.false_ne_true
      obtain rfl : b23 = false := by cases b23 with | false => rfl | true => exact absurd (hM 23 8 rfl rfl) Bool.false_ne_true
      obtain rfl : b24 = false := by cases b24 with | false => rfl | true => exact absurd (hM 24 23 rfl rfl) Bool.false_ne_true
      obtain rfl : b25 = false := by cases b25 with | false => rfl | true => exact absurd (hM 25 24 rfl rfl) Bool.false_ne_true
      obtain rfl : b26 = false := by cases b26 with | false => rfl | true => exact absurd (hM 26 24 rfl rfl) Bool.false_ne_true
      obtain rfl : b27 = false := by cases b27 with | false => rfl | true => exact absurd (hM 27 2 rfl rfl) Bool.false_ne_true
      obtain rfl : b28 = false := by cases b28 with | false => rfl | true => exact absurd (hM 28 2 rfl rfl) Bool.false_ne_true
      clear haft
      have hSr := HS rfl
      have hBl := hSr.bel
      obtain ⟨⟨q0, q1, q2, q3⟩, ⟨p0, p1, p2, p3⟩⟩ := HK.out w' hBl
      obtain rfl := N0 rfl
      go_simp
      exact hK _ _ ⟨⟨b0, b1, true, b3, b4, false, b6, b7, false, b9, b10, b11, b12, b13, b14, b15, b16, b17, b18, b19, b20, b21, b22, false, false, false, false, false, false, false, false, false⟩, ⟨x5, .slice (some ⟨w'.heap.size, 0, none⟩) 0 0, x25, x28, x29, x32, x35, x36, x39, x42, x44, x45, x46, undef, undef, undef⟩, ⟨hh, some ⟨40, 3, .slice (some ⟨w'.heap.size, 0, none⟩) 0 0, 0, []⟩, r1, r2, none, none, none, none, none⟩, rfl, rfl, Lib.hid ⟨nofun, fun _ => ⟨w'.heap.size, 0, rfl, fun _ => rfl⟩, nofun, nofun, N1, P1_0, P1_1, P1_2, N2, P2_0, P2_1, P2_2, nofun, fun _ => Sr.call [] [r1, r2] ⟨40, 3, .slice (some ⟨w'.heap.size, 0, none⟩) 0 0, 0, []⟩ hSr ((Below.refl _ _).alloc (Nat.le_refl _) _) (ownLit (n := 0) [] (Nat.le_refl _) (by omega) rfl)⟩⟩
    refine StepsU.cons ?_ ?_
    · intro Q E0 listed a w' hI hM hk haft K hK
      obtain ⟨⟨b0, b1, b2, b3, b4, b5, b6, b7, b8, b9, b10, b11, b12, b13, b14, b15, b16, b17, b18, b19, b20, b21, b22, b23, b24, b25, b26, b27, b28, b29_, b30_, b31_⟩, ⟨x5, x22, x25, x28, x29, x32, x35, x36, x39, x42, x44, x45, x46, xx13_, xx14_, xx15_⟩, ⟨hh, r0, r1, r2, r3, r4, r5, r6, r7⟩, hl, ha, HF⟩ := hI
      dsimp only at hl ha HF
      subst hl; subst ha
      obtain ⟨N0, P0_0, P0_1, P0_2, N1, P1_0, P1_1, P1_2, N2, P2_0, P2_1, P2_2, Z, HS⟩ := HF.out
      clear HF
      have hk' : b3 = false := hk
      subst hk'
      clear hk
      obtain rfl : b4 = false := by cases b4 with | false => rfl | true => exact absurd (hM 4 3 rfl rfl) Bool.false_ne_true
      obtain rfl : b5 = false := by cases b5 with | false => rfl | true => exact absurd (hM 5 4 rfl rfl) Bool.false_ne_true
      obtain rfl : b8 = false := by cases b8 with | false => rfl | true => exact absurd (hM 8 5 rfl rfl) Bool.false_ne_true
      obtain rfl : b23 = false := by cases b23 with | false => rfl | true => exact absurd (hM 23 8 rfl rfl) Bool.false_ne_true
      obtain rfl : b24 = false := by cases b24 with | false => rfl | true => exact absurd (hM 24 23 rfl rfl) Bool.false_ne_true
      obtain rfl : b25 = false := by cases b25 with | false => rfl | true => exact absurd (hM 25 24 rfl rfl) Bool.false_ne_true
      obtain rfl : b26 = false := by cases b26 with | false => rfl | true => exact absurd (hM 26 24 rfl rfl) Bool.false_ne_true
      obtain rfl : b27 = false := by cases b27 with | false => rfl | true => exact absurd (hM 27 3 rfl rfl) Bool.false_ne_true
      obtain rfl : b28 = false := by cases b28 with | false => rfl | true => exact absurd (hM 28 3 rfl rfl) Bool.false_ne_true
      clear haft
      have hSr := HS rfl
      have hBl := hSr.bel
      obtain ⟨⟨q0, q1, q2, q3⟩, ⟨p0, p1, p2, p3⟩⟩ := HK.out w' hBl
      go_simp
      exact hK _ _ ⟨⟨b0, b1, b2, true, false, false, b6, b7, false, b9, b10, b11, b12, b13, b14, b15, b16, b17, b18, b19, b20, b21, b22, false, false, false, false, false, false, false, false, false⟩, ⟨x5, x22, x25, x28, x29, x32, x35, x36, x39, x42, x44, x45, x46, undef, undef, undef⟩, ⟨hh, r0, r1, r2, none, none, none, none, none⟩, rfl, rfl, Lib.hid ⟨N0, P0_0, nofun, nofun, N1, P1_0, P1_1, P1_2, N2, P2_0, P2_1, P2_2, nofun, fun _ => hSr⟩⟩
    refine StepsU.cons ?_ ?_
    · intro Q E0 listed a w' hI hM hk haft K hK
      obtain ⟨⟨b0, b1, b2, b3, b4, b5, b6, b7, b8, b9, b10, b11, b12, b13, b14, b15, b16, b17, b18, b19, b20, b21, b22, b23, b24, b25, b26, b27, b28, b29_, b30_, b31_⟩, ⟨x5, x22, x25, x28, x29, x32, x35, x36, x39, x42, x44, x45, x46, xx13_, xx14_, xx15_⟩, ⟨hh, r0, r1, r2, r3, r4, r5, r6, r7⟩, hl, ha, HF⟩ := hI
      dsimp only at hl ha HF
      subst hl; subst ha
      obtain ⟨N0, P0_0, P0_1, P0_2, N1, P1_0, P1_1, P1_2, N2, P2_0, P2_1, P2_2, Z, HS⟩ := HF.out
      clear HF
      have hk' : b4 = false := hk
      subst hk'
      clear hk
      obtain rfl : b5 = false := by cases b5 with | false => rfl | true => exact absurd (hM 5 4 rfl rfl) Bool.false_ne_true
      obtain rfl : b8 = false := by cases b8 with | false => rfl | true => exact absurd (hM 8 5 rfl rfl) Bool.false_ne_true
      obtain rfl : b23 = false := by cases b23 with | false => rfl | true => exact absurd (hM 23 8 rfl rfl) Bool.false_ne_true
      obtain rfl : b24 = false := by cases b24 with | false => rfl | true => exact absurd (hM 24 23 rfl rfl) Bool.false_ne_true
      obtain rfl : b25 = false := by cases b25 with | false => rfl | true => exact absurd (hM 25 24 rfl rfl) Bool.false_ne_true
      obtain rfl : b26 = false := by cases b26 with | false => rfl | true => exact absurd (hM 26 24 rfl rfl) Bool.false_ne_true
      obtain rfl : b27 = false := by cases b27 with | false => rfl | true => exact absurd (hM 27 4 rfl rfl) Bool.false_ne_true
      obtain rfl : b28 = false := by cases b28 with | false => rfl | true => exact absurd (hM 28 4 rfl rfl) Bool.false_ne_true
      obtain rfl : b3 = true := haft ⟨3, .data⟩ (by simp) rfl
      clear haft
      have hSr := HS rfl
      have hBl := hSr.bel
      obtain ⟨⟨q0, q1, q2, q3⟩, ⟨p0, p1, p2, p3⟩⟩ := HK.out w' hBl
      go_simp
      exact hK _ _ ⟨⟨b0, b1, b2, true, true, false, b6, b7, false, b9, b10, b11, b12, b13, b14, b15, b16, b17, b18, b19, b20, b21, b22, false, false, false, false, false, false, false, false, false⟩, ⟨x5, x22, x25, x28, x29, x32, x35, x36, x39, x42, x44, x45, x46, undef, undef, undef⟩, ⟨hh, r0, r1, r2, none, none, none, none, none⟩, rfl, rfl, Lib.hid ⟨N0, P0_0, nofun, nofun, N1, P1_0, P1_1, P1_2, N2, P2_0, P2_1, P2_2, nofun, fun _ => hSr⟩⟩
    refine StepsU.cons ?_ ?_
    · intro Q E0 listed a w' hI hM hk haft K hK
      obtain ⟨⟨b0, b1, b2, b3, b4, b5, b6, b7, b8, b9, b10, b11, b12, b13, b14, b15, b16, b17, b18, b19, b20, b21, b22, b23, b24, b25, b26, b27, b28, b29_, b30_, b31_⟩, ⟨x5, x22, x25, x28, x29, x32, x35, x36, x39, x42, x44, x45, x46, xx13_, xx14_, xx15_⟩, ⟨hh, r0, r1, r2, r3, r4, r5, r6, r7⟩, hl, ha, HF⟩ := hI
      dsimp only at hl ha HF
      subst hl; subst ha
      obtain ⟨N0, P0_0, P0_1, P0_2, N1, P1_0, P1_1, P1_2, N2, P2_0, P2_1, P2_2, Z, HS⟩ := HF.out
      clear HF
      have hk' : b5 = false := hk
      subst hk'
      clear hk
      obtain rfl : b8 = false := by cases b8 with | false => rfl | true => exact absurd (hM 8 5 rfl rfl) Bool.false_ne_true
      obtain rfl : b23 = false := by cases b23 with | false => rfl | true => exact absurd (hM 23 8 rfl rfl) Bool.false_ne_true
      obtain rfl : b24 = false := by cases b24 with | false => rfl | true => exact absurd (hM 24 23 rfl rfl) Bool.false_ne_true
      obtain rfl : b25 = false := by cases b25 with | false => rfl | true => exact absurd (hM 25 24 rfl rfl) Bool.false_ne_true
      obtain rfl : b26 = false := by cases b26 with | false => rfl | true => exact absurd (hM 26 24 rfl rfl) Bool.false_ne_true
      obtain rfl : b27 = false := by cases b27 with | false => rfl | true => exact absurd (hM 27 5 rfl rfl) Bool.false_ne_true
      obtain rfl : b28 = false := by cases b28 with | false => rfl | true => exact absurd (hM 28 5 rfl rfl) Bool.false_ne_true
      obtain rfl : b2 = true := haft ⟨2, .data⟩ (by simp) rfl
      obtain rfl : b4 = true := haft ⟨4, .data⟩ (by simp) rfl
      obtain rfl : b3 = true := hM 4 3 rfl rfl
      clear haft
      obtain ⟨g2, c2, rfl, hr2⟩ := P0_0 rfl
      obtain rfl := hr2 rfl
      have hSr := HS rfl
      have hBl := hSr.bel
      obtain ⟨⟨q0, q1, q2, q3⟩, ⟨p0, p1, p2, p3⟩⟩ := HK.out w' hBl
      have hrow := hSr.own _ (List.mem_append_right [] (List.mem_cons_self ..))
      refine stepAppX elMove (by decide) rfl (.tmp 22) (.tmp 24) rfl W.heap.size g2 (0) c2 (A.moves.length) _ _ (cells3 A.moves) w' rfl rfl hrow ((HA3.out.1).stay (kpB hBl)) (by first | (rw [length_cells3]; omega) | simp) (cells3_one _) (by have := HLA.out; have := HLX.out; omega) hBl.size ?_
      intro g' c' w1 hoc hgc hat
      rw [Nat.zero_add] at hoc ⊢
      exact hK _ _ ⟨⟨b0, b1, true, true, true, true, b6, b7, false, b9, b10, b11, b12, b13, b14, b15, b16, b17, b18, b19, b20, b21, b22, false, false, false, false, false, false, false, false, false⟩, ⟨x5, _, .slice (some ⟨g', 0, none⟩) (A.moves.length) c', x28, x29, x32, x35, x36, x39, x42, x44, x45, x46, undef, undef, undef⟩, ⟨hh, some ⟨40, 3, .slice (some ⟨g', 0, none⟩) (A.moves.length) c', A.moves.length, cells3 A.moves⟩, r1, r2, none, none, none, none, none⟩, rfl, rfl, Lib.hid ⟨nofun, fun _ => ⟨_, _, rfl, nofun⟩, fun _ => ⟨g', c', rfl, fun _ => rfl⟩, nofun, N1, P1_0, P1_1, P1_2, N2, P2_0, P2_1, P2_2, nofun, fun _ => Sr.grow [] [r1, r2] ⟨40, 3, .slice (some ⟨g', 0, none⟩) (A.moves.length) c', A.moves.length, cells3 A.moves⟩ hSr rfl rfl hgc hoc hat⟩⟩
    refine StepsU.cons ?_ ?_
    · intro Q E0 listed a w' hI hM hk haft K hK
      obtain ⟨⟨b0, b1, b2, b3, b4, b5, b6, b7, b8, b9, b10, b11, b12, b13, b14, b15, b16, b17, b18, b19, b20, b21, b22, b23, b24, b25, b26, b27, b28, b29_, b30_, b31_⟩, ⟨x5, x22, x25, x28, x29, x32, x35, x36, x39, x42, x44, x45, x46, xx13_, xx14_, xx15_⟩, ⟨hh, r0, r1, r2, r3, r4, r5, r6, r7⟩, hl, ha, HF⟩ := hI
      dsimp only at hl ha HF
      subst hl; subst ha
      obtain ⟨N0, P0_0, P0_1, P0_2, N1, P1_0, P1_1, P1_2, N2, P2_0, P2_1, P2_2, Z, HS⟩ := HF.out
      clear HF
      have hk' : b6 = false := hk
      subst hk'
      clear hk
      obtain rfl : b7 = false := by cases b7 with | false => rfl | true => exact absurd (hM 7 6 rfl rfl) Bool.false_ne_true
      obtain rfl : b8 = false := by cases b8 with | false => rfl | true => exact absurd (hM 8 7 rfl rfl) Bool.false_ne_true
      obtain rfl : b23 = false := by cases b23 with | false => rfl | true => exact absurd (hM 23 8 rfl rfl) Bool.false_ne_true
      obtain rfl : b24 = false := by cases b24 with | false => rfl | true => exact absurd (hM 24 23 rfl rfl) Bool.false_ne_true
      obtain rfl : b25 = false := by cases b25 with | false => rfl | true => exact absurd (hM 25 24 rfl rfl) Bool.false_ne_true
      obtain rfl : b26 = false := by cases b26 with | false => rfl | true => exact absurd (hM 26 24 rfl rfl) Bool.false_ne_true
      obtain rfl : b27 = false := by cases b27 with | false => rfl | true => exact absurd (hM 27 6 rfl rfl) Bool.false_ne_true
      obtain rfl : b28 = false := by cases b28 with | false => rfl | true => exact absurd (hM 28 6 rfl rfl) Bool.false_ne_true
      clear haft
      have hSr := HS rfl
      have hBl := hSr.bel
      obtain ⟨⟨q0, q1, q2, q3⟩, ⟨p0, p1, p2, p3⟩⟩ := HK.out w' hBl
      go_simp
      exact hK _ _ ⟨⟨b0, b1, b2, b3, b4, b5, true, false, false, b9, b10, b11, b12, b13, b14, b15, b16, b17, b18, b19, b20, b21, b22, false, false, false, false, false, false, false, false, false⟩, ⟨x5, x22, x25, x28, x29, x32, x35, x36, x39, x42, x44, x45, x46, undef, undef, undef⟩, ⟨hh, r0, r1, r2, none, none, none, none, none⟩, rfl, rfl, Lib.hid ⟨N0, P0_0, P0_1, nofun, N1, P1_0, P1_1, P1_2, N2, P2_0, P2_1, P2_2, nofun, fun _ => hSr⟩⟩
    refine StepsU.cons ?_ ?_
    · intro Q E0 listed a w' hI hM hk haft K hK
      obtain ⟨⟨b0, b1, b2, b3, b4, b5, b6, b7, b8, b9, b10, b11, b12, b13, b14, b15, b16, b17, b18, b19, b20, b21, b22, b23, b24, b25, b26, b27, b28, b29_, b30_, b31_⟩, ⟨x5, x22, x25, x28, x29, x32, x35, x36, x39, x42, x44, x45, x46, xx13_, xx14_, xx15_⟩, ⟨hh, r0, r1, r2, r3, r4, r5, r6, r7⟩, hl, ha, HF⟩ := hI
      dsimp only at hl ha HF
      subst hl; subst ha
      obtain ⟨N0, P0_0, P0_1, P0_2, N1, P1_0, P1_1, P1_2, N2, P2_0, P2_1, P2_2, Z, HS⟩ := HF.out
      clear HF
      have hk' : b7 = false := hk
      subst hk'
      clear hk
      obtain rfl : b8 = false := by cases b8 with | false => rfl | true => exact absurd (hM 8 7 rfl rfl) Bool.false_ne_true
      obtain rfl : b23 = false := by cases b23 with | false => rfl | true => exact absurd (hM 23 8 rfl rfl) Bool.false_ne_true
      obtain rfl : b24 = false := by cases b24 with | false => rfl | true => exact absurd (hM 24 23 rfl rfl) Bool.false_ne_true
      obtain rfl : b25 = false := by cases b25 with | false => rfl | true => exact absurd (hM 25 24 rfl rfl) Bool.false_ne_true
      obtain rfl : b26 = false := by cases b26 with | false => rfl | true => exact absurd (hM 26 24 rfl rfl) Bool.false_ne_true
      obtain rfl : b27 = false := by cases b27 with | false => rfl | true => exact absurd (hM 27 7 rfl rfl) Bool.false_ne_true
      obtain rfl : b28 = false := by cases b28 with | false => rfl | true => exact absurd (hM 28 7 rfl rfl) Bool.false_ne_true
      obtain rfl : b6 = true := haft ⟨6, .data⟩ (by simp) rfl
      clear haft
      have hSr := HS rfl
      have hBl := hSr.bel
      obtain ⟨⟨q0, q1, q2, q3⟩, ⟨p0, p1, p2, p3⟩⟩ := HK.out w' hBl
      go_simp
      exact hK _ _ ⟨⟨b0, b1, b2, b3, b4, b5, true, true, false, b9, b10, b11, b12, b13, b14, b15, b16, b17, b18, b19, b20, b21, b22, false, false, false, false, false, false, false, false, false⟩, ⟨x5, x22, x25, x28, x29, x32, x35, x36, x39, x42, x44, x45, x46, undef, undef, undef⟩, ⟨hh, r0, r1, r2, none, none, none, none, none⟩, rfl, rfl, Lib.hid ⟨N0, P0_0, P0_1, nofun, N1, P1_0, P1_1, P1_2, N2, P2_0, P2_1, P2_2, nofun, fun _ => hSr⟩⟩
    refine StepsU.cons ?_ ?_
    · intro Q E0 listed a w' hI hM hk haft K hK
      obtain ⟨⟨b0, b1, b2, b3, b4, b5, b6, b7, b8, b9, b10, b11, b12, b13, b14, b15, b16, b17, b18, b19, b20, b21, b22, b23, b24, b25, b26, b27, b28, b29_, b30_, b31_⟩, ⟨x5, x22, x25, x28, x29, x32, x35, x36, x39, x42, x44, x45, x46, xx13_, xx14_, xx15_⟩, ⟨hh, r0, r1, r2, r3, r4, r5, r6, r7⟩, hl, ha, HF⟩ := hI
      dsimp only at hl ha HF
      subst hl; subst ha
      obtain ⟨N0, P0_0, P0_1, P0_2, N1, P1_0, P1_1, P1_2, N2, P2_0, P2_1, P2_2, Z, HS⟩ := HF.out
      clear HF
      have hk' : b8 = false := hk
      subst hk'
      clear hk
      obtain rfl : b23 = false := by cases b23 with | false => rfl | true => exact absurd (hM 23 8 rfl rfl) Bool.false_ne_true
      obtain rfl : b24 = false := by cases b24 with | false => rfl | true => exact absurd (hM 24 23 rfl rfl) Bool.false_ne_true
      obtain rfl : b25 = false := by cases b25 with | false => rfl | true => exact absurd (hM 25 24 rfl rfl) Bool.false_ne_true
      obtain rfl : b26 = false := by cases b26 with | false => rfl | true => exact absurd (hM 26 24 rfl rfl) Bool.false_ne_true
      obtain rfl : b27 = false := by cases b27 with | false => rfl | true => exact absurd (hM 27 8 rfl rfl) Bool.false_ne_true
      obtain rfl : b28 = false := by cases b28 with | false => rfl | true => exact absurd (hM 28 8 rfl rfl) Bool.false_ne_true
      obtain rfl : b5 = true := haft ⟨5, .data⟩ (by simp) rfl
      obtain rfl : b7 = true := haft ⟨7, .data⟩ (by simp) rfl
      obtain rfl : b2 = true := hM 5 2 rfl rfl
      obtain rfl : b4 = true := hM 5 4 rfl rfl
      obtain rfl : b6 = true := hM 7 6 rfl rfl
      obtain rfl : b3 = true := hM 4 3 rfl rfl
      clear haft
      obtain ⟨g5, c5, rfl, hr5⟩ := P0_1 rfl
      obtain rfl := hr5 rfl
      have hSr := HS rfl
      have hBl := hSr.bel
      obtain ⟨⟨q0, q1, q2, q3⟩, ⟨p0, p1, p2, p3⟩⟩ := HK.out w' hBl
      have hrow := hSr.own _ (List.mem_append_right [] (List.mem_cons_self ..))
      refine stepAppX elMove (by decide) rfl (.tmp 25) (.tmp 27) rfl W.heap.size g5 (A.moves.length) c5 (X.moves.length) _ _ (cells3 X.moves) w' rfl rfl hrow ((HO.out.w.rd.1).stay (kpB hBl)) (by first | (rw [length_cells3]; omega) | simp) (cells3_one _) (by have := HLA.out; have := HLX.out; omega) hBl.size ?_
      intro g' c' w1 hoc hgc hat
      rw [HMXL.out] at hoc ⊢
      rw [cells3_two, HMX.out] at hoc
      exact hK _ _ ⟨⟨b0, b1, true, true, true, true, true, true, true, b9, b10, b11, b12, b13, b14, b15, b16, b17, b18, b19, b20, b21, b22, false, false, false, false, false, false, false, false, false⟩, ⟨x5, x22, _, .slice (some ⟨g', 0, none⟩) (mx.length) c', x29, x32, x35, x36, x39, x42, x44, x45, x46, undef, undef, undef⟩, ⟨hh, some ⟨40, 3, .slice (some ⟨g', 0, none⟩) (mx.length) c', mx.length, cells3 mx⟩, r1, r2, none, none, none, none, none⟩, rfl, rfl, Lib.hid ⟨nofun, fun h => let ⟨g, c, e, _⟩ := P0_0 h; ⟨g, c, e, nofun⟩, fun _ => ⟨_, _, rfl, nofun⟩, fun _ => ⟨g', c', rfl, rfl⟩, N1, P1_0, P1_1, P1_2, N2, P2_0, P2_1, P2_2, nofun, fun _ => Sr.grow [] [r1, r2] ⟨40, 3, .slice (some ⟨g', 0, none⟩) (mx.length) c', mx.length, cells3 mx⟩ hSr rfl rfl hgc hoc hat⟩⟩
    refine StepsU.cons ?_ ?_
    · intro Q E0 listed a w' hI hM hk haft K hK
      obtain ⟨⟨b0, b1, b2, b3, b4, b5, b6, b7, b8, b9, b10, b11, b12, b13, b14, b15, b16, b17, b18, b19, b20, b21, b22, b23, b24, b25, b26, b27, b28, b29_, b30_, b31_⟩, ⟨x5, x22, x25, x28, x29, x32, x35, x36, x39, x42, x44, x45, x46, xx13_, xx14_, xx15_⟩, ⟨hh, r0, r1, r2, r3, r4, r5, r6, r7⟩, hl, ha, HF⟩ := hI
      dsimp only at hl ha HF
      subst hl; subst ha
      obtain ⟨N0, P0_0, P0_1, P0_2, N1, P1_0, P1_1, P1_2, N2, P2_0, P2_1, P2_2, Z, HS⟩ := HF.out
      clear HF
      have hk' : b9 = false := hk
      subst hk'
      clear hk
      obtain rfl : b12 = false := by cases b12 with | false => rfl | true => exact absurd (hM 12 9 rfl rfl) Bool.false_ne_true
      obtain rfl : b15 = false := by cases b15 with | false => rfl | true => exact absurd (hM 15 12 rfl rfl) Bool.false_ne_true
      obtain rfl : b23 = false := by cases b23 with | false => rfl | true => exact absurd (hM 23 15 rfl rfl) Bool.false_ne_true
      obtain rfl : b24 = false := by cases b24 with | false => rfl | true => exact absurd (hM 24 23 rfl rfl) Bool.false_ne_true
      obtain rfl : b25 = false := by cases b25 with | false => rfl | true => exact absurd (hM 25 24 rfl rfl) Bool.false_ne_true
      obtain rfl : b26 = false := by cases b26 with | false => rfl | true => exact absurd (hM 26 24 rfl rfl) Bool.false_ne_true
      obtain rfl : b27 = false := by cases b27 with | false => rfl | true => exact absurd (hM 27 9 rfl rfl) Bool.false_ne_true
      obtain rfl : b28 = false := by cases b28 with | false => rfl | true => exact absurd (hM 28 9 rfl rfl) Bool.false_ne_true
      clear haft
      have hSr := HS rfl
      have hBl := hSr.bel
      obtain ⟨⟨q0, q1, q2, q3⟩, ⟨p0, p1, p2, p3⟩⟩ := HK.out w' hBl
      obtain rfl := N1 rfl
      go_simp
      exact hK _ _ ⟨⟨b0, b1, b2, b3, b4, b5, b6, b7, b8, true, b10, b11, false, b13, b14, false, b16, b17, b18, b19, b20, b21, b22, false, false, false, false, false, false, false, false, false⟩, ⟨x5, x22, x25, x28, .slice (some ⟨w'.heap.size, 0, none⟩) 0 0, x32, x35, x36, x39, x42, x44, x45, x46, undef, undef, undef⟩, ⟨hh, r0, some ⟨3, 1, .slice (some ⟨w'.heap.size, 0, none⟩) 0 0, 0, []⟩, r2, none, none, none, none, none⟩, rfl, rfl, Lib.hid ⟨N0, P0_0, P0_1, P0_2, nofun, fun _ => ⟨w'.heap.size, 0, rfl, fun _ => rfl⟩, nofun, nofun, N2, P2_0, P2_1, P2_2, nofun, fun _ => Sr.call [r0] [r2] ⟨3, 1, .slice (some ⟨w'.heap.size, 0, none⟩) 0 0, 0, []⟩ hSr ((Below.refl _ _).alloc (Nat.le_refl _) _) (ownLit (n := 0) [] (Nat.le_refl _) (by omega) rfl)⟩⟩
    refine StepsU.cons ?_ ?_
    · intro Q E0 listed a w' hI hM hk haft K hK
      obtain ⟨⟨b0, b1, b2, b3, b4, b5, b6, b7, b8, b9, b10, b11, b12, b13, b14, b15, b16, b17, b18, b19, b20, b21, b22, b23, b24, b25, b26, b27, b28, b29_, b30_, b31_⟩, ⟨x5, x22, x25, x28, x29, x32, x35, x36, x39, x42, x44, x45, x46, xx13_, xx14_, xx15_⟩, ⟨hh, r0, r1, r2, r3, r4, r5, r6, r7⟩, hl, ha, HF⟩ := hI
      dsimp only at hl ha HF
      subst hl; subst ha
      obtain ⟨N0, P0_0, P0_1, P0_2, N1, P1_0, P1_1, P1_2, N2, P2_0, P2_1, P2_2, Z, HS⟩ := HF.out
      clear HF
      have hk' : b10 = false := hk
      subst hk'
      clear hk
      obtain rfl : b11 = false := by cases b11 with | false => rfl | true => exact absurd (hM 11 10 rfl rfl) Bool.false_ne_true
      obtain rfl : b12 = false := by cases b12 with | false => rfl | true => exact absurd (hM 12 11 rfl rfl) Bool.false_ne_true
      obtain rfl : b15 = false := by cases b15 with | false => rfl | true => exact absurd (hM 15 12 rfl rfl) Bool.false_ne_true
      obtain rfl : b23 = false := by cases b23 with | false => rfl | true => exact absurd (hM 23 15 rfl rfl) Bool.false_ne_true
      obtain rfl : b24 = false := by cases b24 with | false => rfl | true => exact absurd (hM 24 23 rfl rfl) Bool.false_ne_true
      obtain rfl : b25 = false := by cases b25 with | false => rfl | true => exact absurd (hM 25 24 rfl rfl) Bool.false_ne_true
      obtain rfl : b26 = false := by cases b26 with | false => rfl | true => exact absurd (hM 26 24 rfl rfl) Bool.false_ne_true
      obtain rfl : b27 = false := by cases b27 with | false => rfl | true => exact absurd (hM 27 10 rfl rfl) Bool.false_ne_true
      obtain rfl : b28 = false := by cases b28 with | false => rfl | true => exact absurd (hM 28 10 rfl rfl) Bool.false_ne_true
      clear haft
      have hSr := HS rfl
      have hBl := hSr.bel
      obtain ⟨⟨q0, q1, q2, q3⟩, ⟨p0, p1, p2, p3⟩⟩ := HK.out w' hBl
      go_simp
      exact hK _ _ ⟨⟨b0, b1, b2, b3, b4, b5, b6, b7, b8, b9, true, false, false, b13, b14, false, b16, b17, b18, b19, b20, b21, b22, false, false, false, false, false, false, false, false, false⟩, ⟨x5, x22, x25, x28, x29, x32, x35, x36, x39, x42, x44, x45, x46, undef, undef, undef⟩, ⟨hh, r0, r1, r2, none, none, none, none, none⟩, rfl, rfl, Lib.hid ⟨N0, P0_0, P0_1, P0_2, N1, P1_0, nofun, nofun, N2, P2_0, P2_1, P2_2, nofun, fun _ => hSr⟩⟩
    refine StepsU.cons ?_ ?_
    · intro Q E0 listed a w' hI hM hk haft K hK
      obtain ⟨⟨b0, b1, b2, b3, b4, b5, b6, b7, b8, b9, b10, b11, b12, b13, b14, b15, b16, b17, b18, b19, b20, b21, b22, b23, b24, b25, b26, b27, b28, b29_, b30_, b31_⟩, ⟨x5, x22, x25, x28, x29, x32, x35, x36, x39, x42, x44, x45, x46, xx13_, xx14_, xx15_⟩, ⟨hh, r0, r1, r2, r3, r4, r5, r6, r7⟩, hl, ha, HF⟩ := hI
      dsimp only at hl ha HF
      subst hl; subst ha
      obtain ⟨N0, P0_0, P0_1, P0_2, N1, P1_0, P1_1, P1_2, N2, P2_0, P2_1, P2_2, Z, HS⟩ := HF.out
      clear HF
      have hk' : b11 = false := hk
      subst hk'
      clear hk
      obtain rfl : b12 = false := by cases b12 with | false => rfl | true => exact absurd (hM 12 11 rfl rfl) Bool.false_ne_true
      obtain rfl : b15 = false := by cases b15 with | false => rfl | true => exact absurd (hM 15 12 rfl rfl) Bool.false_ne_true
      obtain rfl : b23 = false := by cases b23 with | false => rfl | true => exact absurd (hM 23 15 rfl rfl) Bool.false_ne_true
      obtain rfl : b24 = false := by cases b24 with | false => rfl | true => exact absurd (hM 24 23 rfl rfl) Bool.false_ne_true
      obtain rfl : b25 = false := by cases b25 with | false => rfl | true => exact absurd (hM 25 24 rfl rfl) Bool.false_ne_true
      obtain rfl : b26 = false := by cases b26 with | false => rfl | true => exact absurd (hM 26 24 rfl rfl) Bool.false_ne_true
      obtain rfl : b27 = false := by cases b27 with | false => rfl | true => exact absurd (hM 27 11 rfl rfl) Bool.false_ne_true
      obtain rfl : b28 = false := by cases b28 with | false => rfl | true => exact absurd (hM 28 11 rfl rfl) Bool.false_ne_true
      obtain rfl : b10 = true := haft ⟨10, .data⟩ (by simp) rfl
      clear haft
      have hSr := HS rfl
      have hBl := hSr.bel
      obtain ⟨⟨q0, q1, q2, q3⟩, ⟨p0, p1, p2, p3⟩⟩ := HK.out w' hBl
      go_simp
      exact hK _ _ ⟨⟨b0, b1, b2, b3, b4, b5, b6, b7, b8, b9, true, true, false, b13, b14, false, b16, b17, b18, b19, b20, b21, b22, false, false, false, false, false, false, false, false, false⟩, ⟨x5, x22, x25, x28, x29, x32, x35, x36, x39, x42, x44, x45, x46, undef, undef, undef⟩, ⟨hh, r0, r1, r2, none, none, none, none, none⟩, rfl, rfl, Lib.hid ⟨N0, P0_0, P0_1, P0_2, N1, P1_0, nofun, nofun, N2, P2_0, P2_1, P2_2, nofun, fun _ => hSr⟩⟩
    refine StepsU.cons ?_ ?_
    · intro Q E0 listed a w' hI hM hk haft K hK
      obtain ⟨⟨b0, b1, b2, b3, b4, b5, b6, b7, b8, b9, b10, b11, b12, b13, b14, b15, b16, b17, b18, b19, b20, b21, b22, b23, b24, b25, b26, b27, b28, b29_, b30_, b31_⟩, ⟨x5, x22, x25, x28, x29, x32, x35, x36, x39, x42, x44, x45, x46, xx13_, xx14_, xx15_⟩, ⟨hh, r0, r1, r2, r3, r4, r5, r6, r7⟩, hl, ha, HF⟩ := hI
      dsimp only at hl ha HF
      subst hl; subst ha
      obtain ⟨N0, P0_0, P0_1, P0_2, N1, P1_0, P1_1, P1_2, N2, P2_0, P2_1, P2_2, Z, HS⟩ := HF.out
      clear HF
      have hk' : b12 = false := hk
      subst hk'
      clear hk
      obtain rfl : b15 = false := by cases b15 with | false => rfl | true => exact absurd (hM 15 12 rfl rfl) Bool.false_ne_true
      obtain rfl : b23 = false := by cases b23 with | false => rfl | true => exact absurd (hM 23 15 rfl rfl) Bool.false_ne_true
      obtain rfl : b24 = false := by cases b24 with | false => rfl | true => exact absurd (hM 24 23 rfl rfl) Bool.false_ne_true
      obtain rfl : b25 = false := by cases b25 with | false => rfl | true => exact absurd (hM 25 24 rfl rfl) Bool.false_ne_true
      obtain rfl : b26 = false := by cases b26 with | false => rfl | true => exact absurd (hM 26 24 rfl rfl) Bool.false_ne_true
      obtain rfl : b27 = false := by cases b27 with | false => rfl | true => exact absurd (hM 27 12 rfl rfl) Bool.false_ne_true
      obtain rfl : b28 = false := by cases b28 with | false => rfl | true => exact absurd (hM 28 12 rfl rfl) Bool.false_ne_true
      obtain rfl : b9 = true := haft ⟨9, .data⟩ (by simp) rfl
      obtain rfl : b11 = true := haft ⟨11, .data⟩ (by simp) rfl
      obtain rfl : b10 = true := hM 11 10 rfl rfl
      clear haft
      obtain ⟨g9, c9, rfl, hr9⟩ := P1_0 rfl
      obtain rfl := hr9 rfl
      have hSr := HS rfl
      have hBl := hSr.bel
      obtain ⟨⟨q0, q1, q2, q3⟩, ⟨p0, p1, p2, p3⟩⟩ := HK.out w' hBl
      have hrow := hSr.own _ (List.mem_append_right [r0] (List.mem_cons_self ..))
      refine stepAppX elInt (by decide) rfl (.tmp 29) (.tmp 31) rfl W.heap.size g9 (0) c9 (A.firsts.length) _ _ (A.firsts.map (.int .i64 ·)) w' rfl rfl hrow ((HA3.out.2.1).stay (kpB hBl)) (by first | (rw [length_cells3]; omega) | simp) (by simp [Value.oneCell']) (by have := HLA.out; have := HLX.out; omega) hBl.size ?_
      intro g' c' w1 hoc hgc hat
      rw [Nat.zero_add] at hoc ⊢
      exact hK _ _ ⟨⟨b0, b1, b2, b3, b4, b5, b6, b7, b8, true, true, true, true, b13, b14, false, b16, b17, b18, b19, b20, b21, b22, false, false, false, false, false, false, false, false, false⟩, ⟨x5, x22, x25, x28, _, .slice (some ⟨g', 0, none⟩) (A.firsts.length) c', x35, x36, x39, x42, x44, x45, x46, undef, undef, undef⟩, ⟨hh, r0, some ⟨3, 1, .slice (some ⟨g', 0, none⟩) (A.firsts.length) c', A.firsts.length, A.firsts.map (.int .i64 ·)⟩, r2, none, none, none, none, none⟩, rfl, rfl, Lib.hid ⟨N0, P0_0, P0_1, P0_2, nofun, fun _ => ⟨_, _, rfl, nofun⟩, fun _ => ⟨g', c', rfl, fun _ => rfl⟩, nofun, N2, P2_0, P2_1, P2_2, nofun, fun _ => Sr.grow [r0] [r2] ⟨3, 1, .slice (some ⟨g', 0, none⟩) (A.firsts.length) c', A.firsts.length, A.firsts.map (.int .i64 ·)⟩ hSr rfl rfl hgc hoc hat⟩⟩
    refine StepsU.cons ?_ ?_
    · intro Q E0 listed a w' hI hM hk haft K hK
      obtain ⟨⟨b0, b1, b2, b3, b4, b5, b6, b7, b8, b9, b10, b11, b12, b13, b14, b15, b16, b17, b18, b19, b20, b21, b22, b23, b24, b25, b26, b27, b28, b29_, b30_, b31_⟩, ⟨x5, x22, x25, x28, x29, x32, x35, x36, x39, x42, x44, x45, x46, xx13_, xx14_, xx15_⟩, ⟨hh, r0, r1, r2, r3, r4, r5, r6, r7⟩, hl, ha, HF⟩ := hI
      dsimp only at hl ha HF
      subst hl; subst ha
      obtain ⟨N0, P0_0, P0_1, P0_2, N1, P1_0, P1_1, P1_2, N2, P2_0, P2_1, P2_2, Z, HS⟩ := HF.out
      clear HF
      have hk' : b13 = false := hk
      subst hk'
      clear hk
      obtain rfl : b14 = false := by cases b14 with | false => rfl | true => exact absurd (hM 14 13 rfl rfl) Bool.false_ne_true
      obtain rfl : b15 = false := by cases b15 with | false => rfl | true => exact absurd (hM 15 14 rfl rfl) Bool.false_ne_true
      obtain rfl : b23 = false := by cases b23 with | false => rfl | true => exact absurd (hM 23 15 rfl rfl) Bool.false_ne_true
      obtain rfl : b24 = false := by cases b24 with | false => rfl | true => exact absurd (hM 24 23 rfl rfl) Bool.false_ne_true
      obtain rfl : b25 = false := by cases b25 with | false => rfl | true => exact absurd (hM 25 24 rfl rfl) Bool.false_ne_true
      obtain rfl : b26 = false := by cases b26 with | false => rfl | true => exact absurd (hM 26 24 rfl rfl) Bool.false_ne_true
      obtain rfl : b27 = false := by cases b27 with | false => rfl | true => exact absurd (hM 27 13 rfl rfl) Bool.false_ne_true
      obtain rfl : b28 = false := by cases b28 with | false => rfl | true => exact absurd (hM 28 13 rfl rfl) Bool.false_ne_true
      clear haft
      have hSr := HS rfl
      have hBl := hSr.bel
      obtain ⟨⟨q0, q1, q2, q3⟩, ⟨p0, p1, p2, p3⟩⟩ := HK.out w' hBl
      go_simp
      exact hK _ _ ⟨⟨b0, b1, b2, b3, b4, b5, b6, b7, b8, b9, b10, b11, b12, true, false, false, b16, b17, b18, b19, b20, b21, b22, false, false, false, false, false, false, false, false, false⟩, ⟨x5, x22, x25, x28, x29, x32, x35, x36, x39, x42, x44, x45, x46, undef, undef, undef⟩, ⟨hh, r0, r1, r2, none, none, none, none, none⟩, rfl, rfl, Lib.hid ⟨N0, P0_0, P0_1, P0_2, N1, P1_0, P1_1, nofun, N2, P2_0, P2_1, P2_2, nofun, fun _ => hSr⟩⟩
    refine StepsU.cons ?_ ?_
    · intro Q E0 listed a w' hI hM hk haft K hK
      obtain ⟨⟨b0, b1, b2, b3, b4, b5, b6, b7, b8, b9, b10, b11, b12, b13, b14, b15, b16, b17, b18, b19, b20, b21, b22, b23, b24, b25, b26, b27, b28, b29_, b30_, b31_⟩, ⟨x5, x22, x25, x28, x29, x32, x35, x36, x39, x42, x44, x45, x46, xx13_, xx14_, xx15_⟩, ⟨hh, r0, r1, r2, r3, r4, r5, r6, r7⟩, hl, ha, HF⟩ := hI
      dsimp only at hl ha HF
      subst hl; subst ha
      obtain ⟨N0, P0_0, P0_1, P0_2, N1, P1_0, P1_1, P1_2, N2, P2_0, P2_1, P2_2, Z, HS⟩ := HF.out
      clear HF
      have hk' : b14 = false := hk
      subst hk'
      clear hk
      obtain rfl : b15 = false := by cases b15 with | false => rfl | true => exact absurd (hM 15 14 rfl rfl) Bool.false_ne_true
      obtain rfl : b23 = false := by cases b23 with | false => rfl | true => exact absurd (hM 23 15 rfl rfl) Bool.false_ne_true
      obtain rfl : b24 = false := by cases b24 with | false => rfl | true => exact absurd (hM 24 23 rfl rfl) Bool.false_ne_true
      obtain rfl : b25 = false := by cases b25 with | false => rfl | true => exact absurd (hM 25 24 rfl rfl) Bool.false_ne_true
      obtain rfl : b26 = false := by cases b26 with | false => rfl | true => exact absurd (hM 26 24 rfl rfl) Bool.false_ne_true
      obtain rfl : b27 = false := by cases b27 with | false => rfl | true => exact absurd (hM 27 14 rfl rfl) Bool.false_ne_true
      obtain rfl : b28 = false := by cases b28 with | false => rfl | true => exact absurd (hM 28 14 rfl rfl) Bool.false_ne_true
      obtain rfl : b13 = true := haft ⟨13, .data⟩ (by simp) rfl
      clear haft
      have hSr := HS rfl
      have hBl := hSr.bel
      obtain ⟨⟨q0, q1, q2, q3⟩, ⟨p0, p1, p2, p3⟩⟩ := HK.out w' hBl
      go_simp
      exact hK _ _ ⟨⟨b0, b1, b2, b3, b4, b5, b6, b7, b8, b9, b10, b11, b12, true, true, false, b16, b17, b18, b19, b20, b21, b22, false, false, false, false, false, false, false, false, false⟩, ⟨x5, x22, x25, x28, x29, x32, x35, x36, x39, x42, x44, x45, x46, undef, undef, undef⟩, ⟨hh, r0, r1, r2, none, none, none, none, none⟩, rfl, rfl, Lib.hid ⟨N0, P0_0, P0_1, P0_2, N1, P1_0, P1_1, nofun, N2, P2_0, P2_1, P2_2, nofun, fun _ => hSr⟩⟩
    refine StepsU.cons ?_ ?_
    · intro Q E0 listed a w' hI hM hk haft K hK
      obtain ⟨⟨b0, b1, b2, b3, b4, b5, b6, b7, b8, b9, b10, b11, b12, b13, b14, b15, b16, b17, b18, b19, b20, b21, b22, b23, b24, b25, b26, b27, b28, b29_, b30_, b31_⟩, ⟨x5, x22, x25, x28, x29, x32, x35, x36, x39, x42, x44, x45, x46, xx13_, xx14_, xx15_⟩, ⟨hh, r0, r1, r2, r3, r4, r5, r6, r7⟩, hl, ha, HF⟩ := hI
      dsimp only at hl ha HF
      subst hl; subst ha
      obtain ⟨N0, P0_0, P0_1, P0_2, N1, P1_0, P1_1, P1_2, N2, P2_0, P2_1, P2_2, Z, HS⟩ := HF.out
      clear HF
      have hk' : b15 = false := hk
      subst hk'
      clear hk
      obtain rfl : b23 = false := by cases b23 with | false => rfl | true => exact absurd (hM 23 15 rfl rfl) Bool.false_ne_true
      obtain rfl : b24 = false := by cases b24 with | false => rfl | true => exact absurd (hM 24 23 rfl rfl) Bool.false_ne_true
      obtain rfl : b25 = false := by cases b25 with | false => rfl | true => exact absurd (hM 25 24 rfl rfl) Bool.false_ne_true
      obtain rfl : b26 = false := by cases b26 with | false => rfl | true => exact absurd (hM 26 24 rfl rfl) Bool.false_ne_true
      obtain rfl : b27 = false := by cases b27 with | false => rfl | true => exact absurd (hM 27 15 rfl rfl) Bool.false_ne_true
      obtain rfl : b28 = false := by cases b28 with | false => rfl | true => exact absurd (hM 28 15 rfl rfl) Bool.false_ne_true
      obtain rfl : b12 = true := haft ⟨12, .data⟩ (by simp) rfl
      obtain rfl : b14 = true := haft ⟨14, .data⟩ (by simp) rfl
      obtain rfl : b9 = true := hM 12 9 rfl rfl
      obtain rfl : b11 = true := hM 12 11 rfl rfl
      obtain rfl : b13 = true := hM 14 13 rfl rfl
      obtain rfl : b10 = true := hM 11 10 rfl rfl
      clear haft
      obtain ⟨g12, c12, rfl, hr12⟩ := P1_1 rfl
      obtain rfl := hr12 rfl
      have hSr := HS rfl
      have hBl := hSr.bel
      obtain ⟨⟨q0, q1, q2, q3⟩, ⟨p0, p1, p2, p3⟩⟩ := HK.out w' hBl
      have hrow := hSr.own _ (List.mem_append_right [r0] (List.mem_cons_self ..))
      refine stepAppX elInt (by decide) rfl (.tmp 32) (.tmp 34) rfl W.heap.size g12 (A.firsts.length) c12 (X.firsts.length) _ _ (X.firsts.map (.int .i64 ·)) w' rfl rfl hrow ((HO.out.w.rd.2.1).stay (kpB hBl)) (by first | (rw [length_cells3]; omega) | simp) (by simp [Value.oneCell']) (by have := HLA.out; have := HLX.out; omega) hBl.size ?_
      intro g' c' w1 hoc hgc hat
      rw [HFXL.out] at hoc ⊢
      rw [← List.map_append, HFX.out] at hoc
      exact hK _ _ ⟨⟨b0, b1, b2, b3, b4, b5, b6, b7, b8, true, true, true, true, true, true, true, b16, b17, b18, b19, b20, b21, b22, false, false, false, false, false, false, false, false, false⟩, ⟨x5, x22, x25, x28, x29, _, .slice (some ⟨g', 0, none⟩) (fx.length) c', x36, x39, x42, x44, x45, x46, undef, undef, undef⟩, ⟨hh, r0, some ⟨3, 1, .slice (some ⟨g', 0, none⟩) (fx.length) c', fx.length, fx.map (.int .i64 ·)⟩, r2, none, none, none, none, none⟩, rfl, rfl, Lib.hid ⟨N0, P0_0, P0_1, P0_2, nofun, fun h => let ⟨g, c, e, _⟩ := P1_0 h; ⟨g, c, e, nofun⟩, fun _ => ⟨_, _, rfl, nofun⟩, fun _ => ⟨g', c', rfl, rfl⟩, N2, P2_0, P2_1, P2_2, nofun, fun _ => Sr.grow [r0] [r2] ⟨3, 1, .slice (some ⟨g', 0, none⟩) (fx.length) c', fx.length, fx.map (.int .i64 ·)⟩ hSr rfl rfl hgc hoc hat⟩⟩
    refine StepsU.cons ?_ ?_
    · intro Q E0 listed a w' hI hM hk haft K hK
      obtain ⟨⟨b0, b1, b2, b3, b4, b5, b6, b7, b8, b9, b10, b11, b12, b13, b14, b15, b16, b17, b18, b19, b20, b21, b22, b23, b24, b25, b26, b27, b28, b29_, b30_, b31_⟩, ⟨x5, x22, x25, x28, x29, x32, x35, x36, x39, x42, x44, x45, x46, xx13_, xx14_, xx15_⟩, ⟨hh, r0, r1, r2, r3, r4, r5, r6, r7⟩, hl, ha, HF⟩ := hI
      dsimp only at hl ha HF
      subst hl; subst ha
      obtain ⟨N0, P0_0, P0_1, P0_2, N1, P1_0, P1_1, P1_2, N2, P2_0, P2_1, P2_2, Z, HS⟩ := HF.out
      clear HF
      have hk' : b16 = false := hk
      subst hk'
      clear hk
      obtain rfl : b19 = false := by cases b19 with | false => rfl | true => exact absurd (hM 19 16 rfl rfl) Bool.false_ne_true
      obtain rfl : b22 = false := by cases b22 with | false => rfl | true => exact absurd (hM 22 19 rfl rfl) Bool.false_ne_true
      obtain rfl : b23 = false := by cases b23 with | false => rfl | true => exact absurd (hM 23 22 rfl rfl) Bool.false_ne_true
      obtain rfl : b24 = false := by cases b24 with | false => rfl | true => exact absurd (hM 24 23 rfl rfl) Bool.false_ne_true
      obtain rfl : b25 = false := by cases b25 with | false => rfl | true => exact absurd (hM 25 24 rfl rfl) Bool.false_ne_true
      obtain rfl : b26 = false := by cases b26 with | false => rfl | true => exact absurd (hM 26 24 rfl rfl) Bool.false_ne_true
      obtain rfl : b27 = false := by cases b27 with | false => rfl | true => exact absurd (hM 27 16 rfl rfl) Bool.false_ne_true
      obtain rfl : b28 = false := by cases b28 with | false => rfl | true => exact absurd (hM 28 16 rfl rfl) Bool.false_ne_true
      clear haft
      have hSr := HS rfl
      have hBl := hSr.bel
      obtain ⟨⟨q0, q1, q2, q3⟩, ⟨p0, p1, p2, p3⟩⟩ := HK.out w' hBl
      obtain rfl := N2 rfl
      go_simp
      exact hK _ _ ⟨⟨b0, b1, b2, b3, b4, b5, b6, b7, b8, b9, b10, b11, b12, b13, b14, b15, true, b17, b18, false, b20, b21, false, false, false, false, false, false, false, false, false, false⟩, ⟨x5, x22, x25, x28, x29, x32, x35, .slice (some ⟨w'.heap.size, 0, none⟩) 0 0, x39, x42, x44, x45, x46, undef, undef, undef⟩, ⟨hh, r0, r1, some ⟨3, 1, .slice (some ⟨w'.heap.size, 0, none⟩) 0 0, 0, []⟩, none, none, none, none, none⟩, rfl, rfl, Lib.hid ⟨N0, P0_0, P0_1, P0_2, N1, P1_0, P1_1, P1_2, nofun, fun _ => ⟨w'.heap.size, 0, rfl, fun _ => rfl⟩, nofun, nofun, nofun, fun _ => Sr.call [r0, r1] [] ⟨3, 1, .slice (some ⟨w'.heap.size, 0, none⟩) 0 0, 0, []⟩ hSr ((Below.refl _ _).alloc (Nat.le_refl _) _) (ownLit (n := 0) [] (Nat.le_refl _) (by omega) rfl)⟩⟩
    refine StepsU.cons ?_ ?_
    · intro Q E0 listed a w' hI hM hk haft K hK
      obtain ⟨⟨b0, b1, b2, b3, b4, b5, b6, b7, b8, b9, b10, b11, b12, b13, b14, b15, b16, b17, b18, b19, b20, b21, b22, b23, b24, b25, b26, b27, b28, b29_, b30_, b31_⟩, ⟨x5, x22, x25, x28, x29, x32, x35, x36, x39, x42, x44, x45, x46, xx13_, xx14_, xx15_⟩, ⟨hh, r0, r1, r2, r3, r4, r5, r6, r7⟩, hl, ha, HF⟩ := hI
      dsimp only at hl ha HF
      subst hl; subst ha
      obtain ⟨N0, P0_0, P0_1, P0_2, N1, P1_0, P1_1, P1_2, N2, P2_0, P2_1, P2_2, Z, HS⟩ := HF.out
      clear HF
      have hk' : b17 = false := hk
      subst hk'
      clear hk
      obtain rfl : b18 = false := by cases b18 with | false => rfl | true => exact absurd (hM 18 17 rfl rfl) Bool.false_ne_true
      obtain rfl : b19 = false := by cases b19 with | false => rfl | true => exact absurd (hM 19 18 rfl rfl) Bool.false_ne_true
      obtain rfl : b22 = false := by cases b22 with | false => rfl | true => exact absurd (hM 22 19 rfl rfl) Bool.false_ne_true
      obtain rfl : b23 = false := by cases b23 with | false => rfl | true => exact absurd (hM 23 22 rfl rfl) Bool.false_ne_true
      obtain rfl : b24 = false := by cases b24 with | false => rfl | true => exact absurd (hM 24 23 rfl rfl) Bool.false_ne_true
      obtain rfl : b25 = false := by cases b25 with | false => rfl | true => exact absurd (hM 25 24 rfl rfl) Bool.false_ne_true
      obtain rfl : b26 = false := by cases b26 with | false => rfl | true => exact absurd (hM 26 24 rfl rfl) Bool.false_ne_true
      obtain rfl : b27 = false := by cases b27 with | false => rfl | true => exact absurd (hM 27 17 rfl rfl) Bool.false_ne_true
      obtain rfl : b28 = false := by cases b28 with | false => rfl | true => exact absurd (hM 28 17 rfl rfl) Bool.false_ne_true
      clear haft
      have hSr := HS rfl
      have hBl := hSr.bel
      obtain ⟨⟨q0, q1, q2, q3⟩, ⟨p0, p1, p2, p3⟩⟩ := HK.out w' hBl
      go_simp
      exact hK _ _ ⟨⟨b0, b1, b2, b3, b4, b5, b6, b7, b8, b9, b10, b11, b12, b13, b14, b15, b16, true, false, false, b20, b21, false, false, false, false, false, false, false, false, false, false⟩, ⟨x5, x22, x25, x28, x29, x32, x35, x36, x39, x42, x44, x45, x46, undef, undef, undef⟩, ⟨hh, r0, r1, r2, none, none, none, none, none⟩, rfl, rfl, Lib.hid ⟨N0, P0_0, P0_1, P0_2, N1, P1_0, P1_1, P1_2, N2, P2_0, nofun, nofun, nofun, fun _ => hSr⟩⟩
    refine StepsU.cons ?_ ?_
    · intro Q E0 listed a w' hI hM hk haft K hK
      obtain ⟨⟨b0, b1, b2, b3, b4, b5, b6, b7, b8, b9, b10, b11, b12, b13, b14, b15, b16, b17, b18, b19, b20, b21, b22, b23, b24, b25, b26, b27, b28, b29_, b30_, b31_⟩, ⟨x5, x22, x25, x28, x29, x32, x35, x36, x39, x42, x44, x45, x46, xx13_, xx14_, xx15_⟩, ⟨hh, r0, r1, r2, r3, r4, r5, r6, r7⟩, hl, ha, HF⟩ := hI
      dsimp only at hl ha HF
      subst hl; subst ha
      obtain ⟨N0, P0_0, P0_1, P0_2, N1, P1_0, P1_1, P1_2, N2, P2_0, P2_1, P2_2, Z, HS⟩ := HF.out
      clear HF
      have hk' : b18 = false := hk
      subst hk'
      clear hk
      obtain rfl : b19 = false := by cases b19 with | false => rfl | true => exact absurd (hM 19 18 rfl rfl) Bool.false_ne_true
      obtain rfl : b22 = false := by cases b22 with | false => rfl | true => exact absurd (hM 22 19 rfl rfl) Bool.false_ne_true
      obtain rfl : b23 = false := by cases b23 with | false => rfl | true => exact absurd (hM 23 22 rfl rfl) Bool.false_ne_true
      obtain rfl : b24 = false := by cases b24 with | false => rfl | true => exact absurd (hM 24 23 rfl rfl) Bool.false_ne_true
      obtain rfl : b25 = false := by cases b25 with | false => rfl | true => exact absurd (hM 25 24 rfl rfl) Bool.false_ne_true
      obtain rfl : b26 = false := by cases b26 with | false => rfl | true => exact absurd (hM 26 24 rfl rfl) Bool.false_ne_true
      obtain rfl : b27 = false := by cases b27 with | false => rfl | true => exact absurd (hM 27 18 rfl rfl) Bool.false_ne_true
      obtain rfl : b28 = false := by cases b28 with | false => rfl | true => exact absurd (hM 28 18 rfl rfl) Bool.false_ne_true
      obtain rfl : b17 = true := haft ⟨17, .data⟩ (by simp) rfl
      clear haft
      have hSr := HS rfl
      have hBl := hSr.bel
      obtain ⟨⟨q0, q1, q2, q3⟩, ⟨p0, p1, p2, p3⟩⟩ := HK.out w' hBl
      go_simp
      exact hK _ _ ⟨⟨b0, b1, b2, b3, b4, b5, b6, b7, b8, b9, b10, b11, b12, b13, b14, b15, b16, true, true, false, b20, b21, false, false, false, false, false, false, false, false, false, false⟩, ⟨x5, x22, x25, x28, x29, x32, x35, x36, x39, x42, x44, x45, x46, undef, undef, undef⟩, ⟨hh, r0, r1, r2, none, none, none, none, none⟩, rfl, rfl, Lib.hid ⟨N0, P0_0, P0_1, P0_2, N1, P1_0, P1_1, P1_2, N2, P2_0, nofun, nofun, nofun, fun _ => hSr⟩⟩
    refine StepsU.cons ?_ ?_
    · intro Q E0 listed a w' hI hM hk haft K hK
      obtain ⟨⟨b0, b1, b2, b3, b4, b5, b6, b7, b8, b9, b10, b11, b12, b13, b14, b15, b16, b17, b18, b19, b20, b21, b22, b23, b24, b25, b26, b27, b28, b29_, b30_, b31_⟩, ⟨x5, x22, x25, x28, x29, x32, x35, x36, x39, x42, x44, x45, x46, xx13_, xx14_, xx15_⟩, ⟨hh, r0, r1, r2, r3, r4, r5, r6, r7⟩, hl, ha, HF⟩ := hI
      dsimp only at hl ha HF
      subst hl; subst ha
      obtain ⟨N0, P0_0, P0_1, P0_2, N1, P1_0, P1_1, P1_2, N2, P2_0, P2_1, P2_2, Z, HS⟩ := HF.out
      clear HF
      have hk' : b19 = false := hk
      subst hk'
      clear hk
      obtain rfl : b22 = false := by cases b22 with | false => rfl | true => exact absurd (hM 22 19 rfl rfl) Bool.false_ne_true
      obtain rfl : b23 = false := by cases b23 with | false => rfl | true => exact absurd (hM 23 22 rfl rfl) Bool.false_ne_true
      obtain rfl : b24 = false := by cases b24 with | false => rfl | true => exact absurd (hM 24 23 rfl rfl) Bool.false_ne_true
      obtain rfl : b25 = false := by cases b25 with | false => rfl | true => exact absurd (hM 25 24 rfl rfl) Bool.false_ne_true
      obtain rfl : b26 = false := by cases b26 with | false => rfl | true => exact absurd (hM 26 24 rfl rfl) Bool.false_ne_true
      obtain rfl : b27 = false := by cases b27 with | false => rfl | true => exact absurd (hM 27 19 rfl rfl) Bool.false_ne_true
      obtain rfl : b28 = false := by cases b28 with | false => rfl | true => exact absurd (hM 28 19 rfl rfl) Bool.false_ne_true
      obtain rfl : b16 = true := haft ⟨16, .data⟩ (by simp) rfl
      obtain rfl : b18 = true := haft ⟨18, .data⟩ (by simp) rfl
      obtain rfl : b17 = true := hM 18 17 rfl rfl
      clear haft
      obtain ⟨g16, c16, rfl, hr16⟩ := P2_0 rfl
      obtain rfl := hr16 rfl
      have hSr := HS rfl
      have hBl := hSr.bel
      obtain ⟨⟨q0, q1, q2, q3⟩, ⟨p0, p1, p2, p3⟩⟩ := HK.out w' hBl
      have hrow := hSr.own _ (List.mem_append_right [r0, r1] (List.mem_cons_self ..))
      refine stepAppX elInt (by decide) rfl (.tmp 36) (.tmp 38) rfl W.heap.size g16 (0) c16 (A.ends.length) _ _ (A.ends.map (.int .i64 ·)) w' rfl rfl hrow ((HA3.out.2.2).stay (kpB hBl)) (by first | (rw [length_cells3]; omega) | simp) (by simp [Value.oneCell']) (by have := HLA.out; have := HLX.out; omega) hBl.size ?_
      intro g' c' w1 hoc hgc hat
      rw [Nat.zero_add] at hoc ⊢
      exact hK _ _ ⟨⟨b0, b1, b2, b3, b4, b5, b6, b7, b8, b9, b10, b11, b12, b13, b14, b15, true, true, true, true, b20, b21, false, false, false, false, false, false, false, false, false, false⟩, ⟨x5, x22, x25, x28, x29, x32, x35, _, .slice (some ⟨g', 0, none⟩) (A.ends.length) c', x42, x44, x45, x46, undef, undef, undef⟩, ⟨hh, r0, r1, some ⟨3, 1, .slice (some ⟨g', 0, none⟩) (A.ends.length) c', A.ends.length, A.ends.map (.int .i64 ·)⟩, none, none, none, none, none⟩, rfl, rfl, Lib.hid ⟨N0, P0_0, P0_1, P0_2, N1, P1_0, P1_1, P1_2, nofun, fun _ => ⟨_, _, rfl, nofun⟩, fun _ => ⟨g', c', rfl, fun _ => rfl⟩, nofun, nofun, fun _ => Sr.grow [r0, r1] [] ⟨3, 1, .slice (some ⟨g', 0, none⟩) (A.ends.length) c', A.ends.length, A.ends.map (.int .i64 ·)⟩ hSr rfl rfl hgc hoc hat⟩⟩
    refine StepsU.cons ?_ ?_
    · intro Q E0 listed a w' hI hM hk haft K hK
      obtain ⟨⟨b0, b1, b2, b3, b4, b5, b6, b7, b8, b9, b10, b11, b12, b13, b14, b15, b16, b17, b18, b19, b20, b21, b22, b23, b24, b25, b26, b27, b28, b29_, b30_, b31_⟩, ⟨x5, x22, x25, x28, x29, x32, x35, x36, x39, x42, x44, x45, x46, xx13_, xx14_, xx15_⟩, ⟨hh, r0, r1, r2, r3, r4, r5, r6, r7⟩, hl, ha, HF⟩ := hI
      dsimp only at hl ha HF
      subst hl; subst ha
      obtain ⟨N0, P0_0, P0_1, P0_2, N1, P1_0, P1_1, P1_2, N2, P2_0, P2_1, P2_2, Z, HS⟩ := HF.out
      clear HF
      have hk' : b20 = false := hk
      subst hk'
      clear hk
      obtain rfl : b21 = false := by cases b21 with | false => rfl | true => exact absurd (hM 21 20 rfl rfl) Bool.false_ne_true
      obtain rfl : b22 = false := by cases b22 with | false => rfl | true => exact absurd (hM 22 21 rfl rfl) Bool.false_ne_true
      obtain rfl : b23 = false := by cases b23 with | false => rfl | true => exact absurd (hM 23 22 rfl rfl) Bool.false_ne_true
      obtain rfl : b24 = false := by cases b24 with | false => rfl | true => exact absurd (hM 24 23 rfl rfl) Bool.false_ne_true
      obtain rfl : b25 = false := by cases b25 with | false => rfl | true => exact absurd (hM 25 24 rfl rfl) Bool.false_ne_true
      obtain rfl : b26 = false := by cases b26 with | false => rfl | true => exact absurd (hM 26 24 rfl rfl) Bool.false_ne_true
      obtain rfl : b27 = false := by cases b27 with | false => rfl | true => exact absurd (hM 27 20 rfl rfl) Bool.false_ne_true
      obtain rfl : b28 = false := by cases b28 with | false => rfl | true => exact absurd (hM 28 20 rfl rfl) Bool.false_ne_true
      clear haft
      have hSr := HS rfl
      have hBl := hSr.bel
      obtain ⟨⟨q0, q1, q2, q3⟩, ⟨p0, p1, p2, p3⟩⟩ := HK.out w' hBl
      go_simp
      exact hK _ _ ⟨⟨b0, b1, b2, b3, b4, b5, b6, b7, b8, b9, b10, b11, b12, b13, b14, b15, b16, b17, b18, b19, true, false, false, false, false, false, false, false, false, false, false, false⟩, ⟨x5, x22, x25, x28, x29, x32, x35, x36, x39, x42, x44, x45, x46, undef, undef, undef⟩, ⟨hh, r0, r1, r2, none, none, none, none, none⟩, rfl, rfl, Lib.hid ⟨N0, P0_0, P0_1, P0_2, N1, P1_0, P1_1, P1_2, N2, P2_0, P2_1, nofun, nofun, fun _ => hSr⟩⟩
    refine StepsU.cons ?_ ?_
    · intro Q E0 listed a w' hI hM hk haft K hK
      obtain ⟨⟨b0, b1, b2, b3, b4, b5, b6, b7, b8, b9, b10, b11, b12, b13, b14, b15, b16, b17, b18, b19, b20, b21, b22, b23, b24, b25, b26, b27, b28, b29_, b30_, b31_⟩, ⟨x5, x22, x25, x28, x29, x32, x35, x36, x39, x42, x44, x45, x46, xx13_, xx14_, xx15_⟩, ⟨hh, r0, r1, r2, r3, r4, r5, r6, r7⟩, hl, ha, HF⟩ := hI
      dsimp only at hl ha HF
      subst hl; subst ha
      obtain ⟨N0, P0_0, P0_1, P0_2, N1, P1_0, P1_1, P1_2, N2, P2_0, P2_1, P2_2, Z, HS⟩ := HF.out
      clear HF
      have hk' : b21 = false := hk
      subst hk'
      clear hk
      obtain rfl : b22 = false := by cases b22 with | false => rfl | true => exact absurd (hM 22 21 rfl rfl) Bool.false_ne_true
      obtain rfl : b23 = false := by cases b23 with | false => rfl | true => exact absurd (hM 23 22 rfl rfl) Bool.false_ne_true
      obtain rfl : b24 = false := by cases b24 with | false => rfl | true => exact absurd (hM 24 23 rfl rfl) Bool.false_ne_true
      obtain rfl : b25 = false := by cases b25 with | false => rfl | true => exact absurd (hM 25 24 rfl rfl) Bool.false_ne_true
      obtain rfl : b26 = false := by cases b26 with | false => rfl | true => exact absurd (hM 26 24 rfl rfl) Bool.false_ne_true
      obtain rfl : b27 = false := by cases b27 with | false => rfl | true => exact absurd (hM 27 21 rfl rfl) Bool.false_ne_true
      obtain rfl : b28 = false := by cases b28 with | false => rfl | true => exact absurd (hM 28 21 rfl rfl) Bool.false_ne_true
      obtain rfl : b20 = true := haft ⟨20, .data⟩ (by simp) rfl
      clear haft
      have hSr := HS rfl
      have hBl := hSr.bel
      obtain ⟨⟨q0, q1, q2, q3⟩, ⟨p0, p1, p2, p3⟩⟩ := HK.out w' hBl
      go_simp
      exact hK _ _ ⟨⟨b0, b1, b2, b3, b4, b5, b6, b7, b8, b9, b10, b11, b12, b13, b14, b15, b16, b17, b18, b19, true, true, false, false, false, false, false, false, false, false, false, false⟩, ⟨x5, x22, x25, x28, x29, x32, x35, x36, x39, x42, x44, x45, x46, undef, undef, undef⟩, ⟨hh, r0, r1, r2, none, none, none, none, none⟩, rfl, rfl, Lib.hid ⟨N0, P0_0, P0_1, P0_2, N1, P1_0, P1_1, P1_2, N2, P2_0, P2_1, nofun, nofun, fun _ => hSr⟩⟩
    refine StepsU.cons ?_ ?_
    · intro Q E0 listed a w' hI hM hk haft K hK
      obtain ⟨⟨b0, b1, b2, b3, b4, b5, b6, b7, b8, b9, b10, b11, b12, b13, b14, b15, b16, b17, b18, b19, b20, b21, b22, b23, b24, b25, b26, b27, b28, b29_, b30_, b31_⟩, ⟨x5, x22, x25, x28, x29, x32, x35, x36, x39, x42, x44, x45, x46, xx13_, xx14_, xx15_⟩, ⟨hh, r0, r1, r2, r3, r4, r5, r6, r7⟩, hl, ha, HF⟩ := hI
      dsimp only at hl ha HF
      subst hl; subst ha
      obtain ⟨N0, P0_0, P0_1, P0_2, N1, P1_0, P1_1, P1_2, N2, P2_0, P2_1, P2_2, Z, HS⟩ := HF.out
      clear HF
      have hk' : b22 = false := hk
      subst hk'
      clear hk
      obtain rfl : b23 = false := by cases b23 with | false => rfl | true => exact absurd (hM 23 22 rfl rfl) Bool.false_ne_true
      obtain rfl : b24 = false := by cases b24 with | false => rfl | true => exact absurd (hM 24 23 rfl rfl) Bool.false_ne_true
      obtain rfl : b25 = false := by cases b25 with | false => rfl | true => exact absurd (hM 25 24 rfl rfl) Bool.false_ne_true
      obtain rfl : b26 = false := by cases b26 with | false => rfl | true => exact absurd (hM 26 24 rfl rfl) Bool.false_ne_true
      obtain rfl : b27 = false := by cases b27 with | false => rfl | true => exact absurd (hM 27 22 rfl rfl) Bool.false_ne_true
      obtain rfl : b28 = false := by cases b28 with | false => rfl | true => exact absurd (hM 28 22 rfl rfl) Bool.false_ne_true
      obtain rfl : b19 = true := haft ⟨19, .data⟩ (by simp) rfl
      obtain rfl : b21 = true := haft ⟨21, .data⟩ (by simp) rfl
      obtain rfl : b16 = true := hM 19 16 rfl rfl
      obtain rfl : b18 = true := hM 19 18 rfl rfl
      obtain rfl : b20 = true := hM 21 20 rfl rfl
      obtain rfl : b17 = true := hM 18 17 rfl rfl
      clear haft
      obtain ⟨g19, c19, rfl, hr19⟩ := P2_1 rfl
      obtain rfl := hr19 rfl
      have hSr := HS rfl
      have hBl := hSr.bel
      obtain ⟨⟨q0, q1, q2, q3⟩, ⟨p0, p1, p2, p3⟩⟩ := HK.out w' hBl
      have hrow := hSr.own _ (List.mem_append_right [r0, r1] (List.mem_cons_self ..))
      refine stepAppX elInt (by decide) rfl (.tmp 39) (.tmp 41) rfl W.heap.size g19 (A.ends.length) c19 (X.ends.length) _ _ (X.ends.map (.int .i64 ·)) w' rfl rfl hrow ((HO.out.w.rd.2.2).stay (kpB hBl)) (by first | (rw [length_cells3]; omega) | simp) (by simp [Value.oneCell']) (by have := HLA.out; have := HLX.out; omega) hBl.size ?_
      intro g' c' w1 hoc hgc hat
      rw [HEXL.out] at hoc ⊢
      rw [← List.map_append, HEX.out] at hoc
      exact hK _ _ ⟨⟨b0, b1, b2, b3, b4, b5, b6, b7, b8, b9, b10, b11, b12, b13, b14, b15, true, true, true, true, true, true, true, false, false, false, false, false, false, false, false, false⟩, ⟨x5, x22, x25, x28, x29, x32, x35, x36, _, .slice (some ⟨g', 0, none⟩) (ex.length) c', x44, x45, x46, undef, undef, undef⟩, ⟨hh, r0, r1, some ⟨3, 1, .slice (some ⟨g', 0, none⟩) (ex.length) c', ex.length, ex.map (.int .i64 ·)⟩, none, none, none, none, none⟩, rfl, rfl, Lib.hid ⟨N0, P0_0, P0_1, P0_2, N1, P1_0, P1_1, P1_2, nofun, fun h => let ⟨g, c, e, _⟩ := P2_0 h; ⟨g, c, e, nofun⟩, fun _ => ⟨_, _, rfl, nofun⟩, fun _ => ⟨g', c', rfl, rfl⟩, nofun, fun _ => Sr.grow [r0, r1] [] ⟨3, 1, .slice (some ⟨g', 0, none⟩) (ex.length) c', ex.length, ex.map (.int .i64 ·)⟩ hSr rfl rfl hgc hoc hat⟩⟩
    refine StepsU.cons ?_ ?_
    · intro Q E0 listed a w' hI hM hk haft K hK
      obtain ⟨⟨b0, b1, b2, b3, b4, b5, b6, b7, b8, b9, b10, b11, b12, b13, b14, b15, b16, b17, b18, b19, b20, b21, b22, b23, b24, b25, b26, b27, b28, b29_, b30_, b31_⟩, ⟨x5, x22, x25, x28, x29, x32, x35, x36, x39, x42, x44, x45, x46, xx13_, xx14_, xx15_⟩, ⟨hh, r0, r1, r2, r3, r4, r5, r6, r7⟩, hl, ha, HF⟩ := hI
      dsimp only at hl ha HF
      subst hl; subst ha
      obtain ⟨N0, P0_0, P0_1, P0_2, N1, P1_0, P1_1, P1_2, N2, P2_0, P2_1, P2_2, Z, HS⟩ := HF.out
      clear HF
      have hk' : b23 = false := hk
      subst hk'
      clear hk
      obtain rfl : b24 = false := by cases b24 with | false => rfl | true => exact absurd (hM 24 23 rfl rfl) Bool.false_ne_true
      obtain rfl : b25 = false := by cases b25 with | false => rfl | true => exact absurd (hM 25 24 rfl rfl) Bool.false_ne_true
      obtain rfl : b26 = false := by cases b26 with | false => rfl | true => exact absurd (hM 26 24 rfl rfl) Bool.false_ne_true
      obtain rfl : b27 = false := by cases b27 with | false => rfl | true => exact absurd (hM 27 23 rfl rfl) Bool.false_ne_true
      obtain rfl : b28 = false := by cases b28 with | false => rfl | true => exact absurd (hM 28 23 rfl rfl) Bool.false_ne_true
      obtain rfl : b1 = true := haft ⟨1, .data⟩ (by simp) rfl
      obtain rfl : b8 = true := haft ⟨8, .data⟩ (by simp) rfl
      obtain rfl : b15 = true := haft ⟨15, .data⟩ (by simp) rfl
      obtain rfl : b22 = true := haft ⟨22, .data⟩ (by simp) rfl
      obtain rfl : b0 = true := hM 1 0 rfl rfl
      obtain rfl : b5 = true := hM 8 5 rfl rfl
      obtain rfl : b7 = true := hM 8 7 rfl rfl
      obtain rfl : b12 = true := hM 15 12 rfl rfl
      obtain rfl : b14 = true := hM 15 14 rfl rfl
      obtain rfl : b19 = true := hM 22 19 rfl rfl
      obtain rfl : b21 = true := hM 22 21 rfl rfl
      obtain rfl : b2 = true := hM 5 2 rfl rfl
      obtain rfl : b4 = true := hM 5 4 rfl rfl
      obtain rfl : b6 = true := hM 7 6 rfl rfl
      obtain rfl : b9 = true := hM 12 9 rfl rfl
      obtain rfl : b11 = true := hM 12 11 rfl rfl
      obtain rfl : b13 = true := hM 14 13 rfl rfl
      obtain rfl : b16 = true := hM 19 16 rfl rfl
      obtain rfl : b18 = true := hM 19 18 rfl rfl
      obtain rfl : b20 = true := hM 21 20 rfl rfl
      obtain rfl : b3 = true := hM 4 3 rfl rfl
      obtain rfl : b10 = true := hM 11 10 rfl rfl
      obtain rfl : b17 = true := hM 18 17 rfl rfl
      clear haft
      obtain ⟨g8, c8, rfl, rfl⟩ := P0_2 rfl
      obtain ⟨g15, c15, rfl, rfl⟩ := P1_2 rfl
      obtain ⟨g22, c22, rfl, rfl⟩ := P2_2 rfl
      have hSr := HS rfl
      have hBl := hSr.bel
      obtain ⟨⟨q0, q1, q2, q3⟩, ⟨p0, p1, p2, p3⟩⟩ := HK.out w' hBl
      go_simp
      exact hK _ _ ⟨⟨true, true, true, true, true, true, true, true, true, true, true, true, true, true, true, true, true, true, true, true, true, true, true, true, false, false, false, false, false, false, false, false⟩, ⟨x5, x22, x25, _, x29, x32, _, x36, x39, _, x44, x45, x46, undef, undef, undef⟩, ⟨hh, _, _, _, none, none, none, none, none⟩, rfl, rfl, Lib.hid ⟨N0, P0_0, P0_1, fun _ => ⟨_, _, rfl, rfl⟩, N1, P1_0, P1_1, fun _ => ⟨_, _, rfl, rfl⟩, N2, P2_0, P2_1, fun _ => ⟨_, _, rfl, rfl⟩, nofun, fun _ => hSr⟩⟩
    refine StepsU.cons ?_ ?_
    · intro Q E0 listed a w' hI hM hk haft K hK
      obtain ⟨⟨b0, b1, b2, b3, b4, b5, b6, b7, b8, b9, b10, b11, b12, b13, b14, b15, b16, b17, b18, b19, b20, b21, b22, b23, b24, b25, b26, b27, b28, b29_, b30_, b31_⟩, ⟨x5, x22, x25, x28, x29, x32, x35, x36, x39, x42, x44, x45, x46, xx13_, xx14_, xx15_⟩, ⟨hh, r0, r1, r2, r3, r4, r5, r6, r7⟩, hl, ha, HF⟩ := hI
      dsimp only at hl ha HF
      subst hl; subst ha
      obtain ⟨N0, P0_0, P0_1, P0_2, N1, P1_0, P1_1, P1_2, N2, P2_0, P2_1, P2_2, Z, HS⟩ := HF.out
      clear HF
      have hk' : b24 = false := hk
      subst hk'
      clear hk
      obtain rfl : b25 = false := by cases b25 with | false => rfl | true => exact absurd (hM 25 24 rfl rfl) Bool.false_ne_true
      obtain rfl : b26 = false := by cases b26 with | false => rfl | true => exact absurd (hM 26 24 rfl rfl) Bool.false_ne_true
      obtain rfl : b27 = false := by cases b27 with | false => rfl | true => exact absurd (hM 27 24 rfl rfl) Bool.false_ne_true
      obtain rfl : b28 = false := by cases b28 with | false => rfl | true => exact absurd (hM 28 24 rfl rfl) Bool.false_ne_true
      obtain rfl : b23 = true := haft ⟨23, .data⟩ (by simp) rfl
      obtain rfl : b1 = true := hM 23 1 rfl rfl
      obtain rfl : b8 = true := hM 23 8 rfl rfl
      obtain rfl : b15 = true := hM 23 15 rfl rfl
      obtain rfl : b22 = true := hM 23 22 rfl rfl
      obtain rfl : b0 = true := hM 1 0 rfl rfl
      obtain rfl : b5 = true := hM 8 5 rfl rfl
      obtain rfl : b7 = true := hM 8 7 rfl rfl
      obtain rfl : b12 = true := hM 15 12 rfl rfl
      obtain rfl : b14 = true := hM 15 14 rfl rfl
      obtain rfl : b19 = true := hM 22 19 rfl rfl
      obtain rfl : b21 = true := hM 22 21 rfl rfl
      obtain rfl : b2 = true := hM 5 2 rfl rfl
      obtain rfl : b4 = true := hM 5 4 rfl rfl
      obtain rfl : b6 = true := hM 7 6 rfl rfl
      obtain rfl : b9 = true := hM 12 9 rfl rfl
      obtain rfl : b11 = true := hM 12 11 rfl rfl
      obtain rfl : b13 = true := hM 14 13 rfl rfl
      obtain rfl : b16 = true := hM 19 16 rfl rfl
      obtain rfl : b18 = true := hM 19 18 rfl rfl
      obtain rfl : b20 = true := hM 21 20 rfl rfl
      obtain rfl : b3 = true := hM 4 3 rfl rfl
      obtain rfl : b10 = true := hM 11 10 rfl rfl
      obtain rfl : b17 = true := hM 18 17 rfl rfl
      clear haft
      obtain ⟨g8, c8, rfl, rfl⟩ := P0_2 rfl
      obtain ⟨g15, c15, rfl, rfl⟩ := P1_2 rfl
      obtain ⟨g22, c22, rfl, rfl⟩ := P2_2 rfl
      have hSr := HS rfl
      have hBl := hSr.bel
      obtain ⟨⟨q0, q1, q2, q3⟩, ⟨p0, p1, p2, p3⟩⟩ := HK.out w' hBl
      have HNO := (show NfaO W.heap.size w' _ _ _ ⟨X.states, mx, fx, ex⟩ from ⟨hSr.at 0 rfl, hSr.at 1 rfl, hSr.at 2 rfl, fun b hb => hSr.neq (i := 1) (j := 2) (by omega) rfl rfl b hb⟩)
      go_simp
      go_at_call 155
      refine (l13Limit_c _ _ _ ⟨X.states, mx, fx, ex⟩ _ HNO.w.rd).mono ?_
      rintro e w1 ⟨v1, v2, v3, rfl, hbc, hc⟩
      have HO3 := (CK.o hc HNO hbc).base (base' := w.heap.size) hbs
      obtain ⟨p1, p2, p3, rfl⟩ := HO3.1.sl
      obtain ⟨p4, p5, p6, rfl⟩ := HO3.2.1.sl
      obtain ⟨p7, p8, p9, rfl⟩ := HO3.2.2.1.sl
      rw [HEs.out, HYb.out]
      have hBl2 := hBl.trans (hbc.mono hBl.size)
      exact hK _ _ ⟨⟨true, true, true, true, true, true, true, true, true, true, true, true, true, true, true, true, true, true, true, true, true, true, true, true, true, false, false, false, false, false, false, false⟩, ⟨x5, x22, x25, _, x29, x32, _, x36, x39, _, _, x45, x46, undef, undef, undef⟩, ⟨hh, _, _, _, none, none, none, none, none⟩, rfl, rfl, Lib.hid ⟨N0, P0_0, P0_1, fun _ => ⟨_, _, rfl, rfl⟩, N1, P1_0, P1_1, fun _ => ⟨_, _, rfl, rfl⟩, N2, P2_0, P2_1, fun _ => ⟨_, _, rfl, rfl⟩, fun _ => ⟨p1, p2, p3, p4, p5, p6, p7, p8, p9, rfl, nofun, nofun, nofun, fun _ => ⟨HO3, Hb0.out.trans (hBl2.mono hbs), blkBel hBl2 k2.out⟩, nofun⟩, nofun⟩⟩
    refine StepsU.cons ?_ ?_
    · intro Q E0 listed a w' hI hM hk haft K hK
      obtain ⟨⟨b0, b1, b2, b3, b4, b5, b6, b7, b8, b9, b10, b11, b12, b13, b14, b15, b16, b17, b18, b19, b20, b21, b22, b23, b24, b25, b26, b27, b28, b29_, b30_, b31_⟩, ⟨x5, x22, x25, x28, x29, x32, x35, x36, x39, x42, x44, x45, x46, xx13_, xx14_, xx15_⟩, ⟨hh, r0, r1, r2, r3, r4, r5, r6, r7⟩, hl, ha, HF⟩ := hI
      dsimp only at hl ha HF
      subst hl; subst ha
      obtain ⟨N0, P0_0, P0_1, P0_2, N1, P1_0, P1_1, P1_2, N2, P2_0, P2_1, P2_2, Z, HS⟩ := HF.out
      clear HF
      have hk' : b25 = false := hk
      subst hk'
      clear hk
      obtain rfl : b27 = false := by cases b27 with | false => rfl | true => exact absurd (hM 27 25 rfl rfl) Bool.false_ne_true
      obtain rfl : b28 = false := by cases b28 with | false => rfl | true => exact absurd (hM 28 25 rfl rfl) Bool.false_ne_true
      obtain rfl : b24 = true := haft ⟨24, .data⟩ (by simp) rfl
      obtain rfl : b23 = true := hM 24 23 rfl rfl
      obtain rfl : b1 = true := hM 23 1 rfl rfl
      obtain rfl : b8 = true := hM 23 8 rfl rfl
      obtain rfl : b15 = true := hM 23 15 rfl rfl
      obtain rfl : b22 = true := hM 23 22 rfl rfl
      obtain rfl : b0 = true := hM 1 0 rfl rfl
      obtain rfl : b5 = true := hM 8 5 rfl rfl
      obtain rfl : b7 = true := hM 8 7 rfl rfl
      obtain rfl : b12 = true := hM 15 12 rfl rfl
      obtain rfl : b14 = true := hM 15 14 rfl rfl
      obtain rfl : b19 = true := hM 22 19 rfl rfl
      obtain rfl : b21 = true := hM 22 21 rfl rfl
      obtain rfl : b2 = true := hM 5 2 rfl rfl
      obtain rfl : b4 = true := hM 5 4 rfl rfl
      obtain rfl : b6 = true := hM 7 6 rfl rfl
      obtain rfl : b9 = true := hM 12 9 rfl rfl
      obtain rfl : b11 = true := hM 12 11 rfl rfl
      obtain rfl : b13 = true := hM 14 13 rfl rfl
      obtain rfl : b16 = true := hM 19 16 rfl rfl
      obtain rfl : b18 = true := hM 19 18 rfl rfl
      obtain rfl : b20 = true := hM 21 20 rfl rfl
      obtain rfl : b3 = true := hM 4 3 rfl rfl
      obtain rfl : b10 = true := hM 11 10 rfl rfl
      obtain rfl : b17 = true := hM 18 17 rfl rfl
      clear haft
      obtain ⟨p1, p2, p3, p4, p5, p6, p7, p8, p9, rfl, z5, z6, z8, za, zb⟩ := Z rfl
      go_simp
      exact hK _ _ ⟨⟨true, true, true, true, true, true, true, true, true, true, true, true, true, true, true, true, true, true, true, true, true, true, true, true, true, true, b26, false, false, false, false, false⟩, ⟨x5, x22, x25, x28, x29, x32, x35, x36, x39, x42, _, _, x46, undef, undef, undef⟩, ⟨hh, r0, r1, r2, none, none, none, none, none⟩, rfl, rfl, Lib.hid ⟨N0, P0_0, P0_1, P0_2, N1, P1_0, P1_1, P1_2, N2, P2_0, P2_1, P2_2, fun _ => ⟨p1, p2, p3, p4, p5, p6, p7, p8, p9, rfl, fun _ => rfl, z6, z8, za, zb⟩, nofun⟩⟩
    refine StepsU.cons ?_ ?_
    · intro Q E0 listed a w' hI hM hk haft K hK
      obtain ⟨⟨b0, b1, b2, b3, b4, b5, b6, b7, b8, b9, b10, b11, b12, b13, b14, b15, b16, b17, b18, b19, b20, b21, b22, b23, b24, b25, b26, b27, b28, b29_, b30_, b31_⟩, ⟨x5, x22, x25, x28, x29, x32, x35, x36, x39, x42, x44, x45, x46, xx13_, xx14_, xx15_⟩, ⟨hh, r0, r1, r2, r3, r4, r5, r6, r7⟩, hl, ha, HF⟩ := hI
      dsimp only at hl ha HF
      subst hl; subst ha
      obtain ⟨N0, P0_0, P0_1, P0_2, N1, P1_0, P1_1, P1_2, N2, P2_0, P2_1, P2_2, Z, HS⟩ := HF.out
      clear HF
      have hk' : b26 = false := hk
      subst hk'
      clear hk
      obtain rfl : b27 = false := by cases b27 with | false => rfl | true => exact absurd (hM 27 26 rfl rfl) Bool.false_ne_true
      obtain rfl : b28 = false := by cases b28 with | false => rfl | true => exact absurd (hM 28 26 rfl rfl) Bool.false_ne_true
      obtain rfl : b24 = true := haft ⟨24, .data⟩ (by simp) rfl
      obtain rfl : b23 = true := hM 24 23 rfl rfl
      obtain rfl : b1 = true := hM 23 1 rfl rfl
      obtain rfl : b8 = true := hM 23 8 rfl rfl
      obtain rfl : b15 = true := hM 23 15 rfl rfl
      obtain rfl : b22 = true := hM 23 22 rfl rfl
      obtain rfl : b0 = true := hM 1 0 rfl rfl
      obtain rfl : b5 = true := hM 8 5 rfl rfl
      obtain rfl : b7 = true := hM 8 7 rfl rfl
      obtain rfl : b12 = true := hM 15 12 rfl rfl
      obtain rfl : b14 = true := hM 15 14 rfl rfl
      obtain rfl : b19 = true := hM 22 19 rfl rfl
      obtain rfl : b21 = true := hM 22 21 rfl rfl
      obtain rfl : b2 = true := hM 5 2 rfl rfl
      obtain rfl : b4 = true := hM 5 4 rfl rfl
      obtain rfl : b6 = true := hM 7 6 rfl rfl
      obtain rfl : b9 = true := hM 12 9 rfl rfl
      obtain rfl : b11 = true := hM 12 11 rfl rfl
      obtain rfl : b13 = true := hM 14 13 rfl rfl
      obtain rfl : b16 = true := hM 19 16 rfl rfl
      obtain rfl : b18 = true := hM 19 18 rfl rfl
      obtain rfl : b20 = true := hM 21 20 rfl rfl
      obtain rfl : b3 = true := hM 4 3 rfl rfl
      obtain rfl : b10 = true := hM 11 10 rfl rfl
      obtain rfl : b17 = true := hM 18 17 rfl rfl
      clear haft
      obtain ⟨p1, p2, p3, p4, p5, p6, p7, p8, p9, rfl, z5, z6, z8, za, zb⟩ := Z rfl
      go_simp
      exact hK _ _ ⟨⟨true, true, true, true, true, true, true, true, true, true, true, true, true, true, true, true, true, true, true, true, true, true, true, true, true, b25, true, false, false, false, false, false⟩, ⟨x5, x22, x25, x28, x29, x32, x35, x36, x39, x42, _, x45, _, undef, undef, undef⟩, ⟨hh, r0, r1, r2, none, none, none, none, none⟩, rfl, rfl, Lib.hid ⟨N0, P0_0, P0_1, P0_2, N1, P1_0, P1_1, P1_2, N2, P2_0, P2_1, P2_2, fun _ => ⟨p1, p2, p3, p4, p5, p6, p7, p8, p9, rfl, z5, fun _ => rfl, z8, za, zb⟩, nofun⟩⟩
    refine StepsU.cons ?_ ?_
    · intro Q E0 listed a w' hI hM hk haft K hK
      obtain ⟨⟨b0, b1, b2, b3, b4, b5, b6, b7, b8, b9, b10, b11, b12, b13, b14, b15, b16, b17, b18, b19, b20, b21, b22, b23, b24, b25, b26, b27, b28, b29_, b30_, b31_⟩, ⟨x5, x22, x25, x28, x29, x32, x35, x36, x39, x42, x44, x45, x46, xx13_, xx14_, xx15_⟩, ⟨hh, r0, r1, r2, r3, r4, r5, r6, r7⟩, hl, ha, HF⟩ := hI
      dsimp only at hl ha HF
      subst hl; subst ha
      obtain ⟨N0, P0_0, P0_1, P0_2, N1, P1_0, P1_1, P1_2, N2, P2_0, P2_1, P2_2, Z, HS⟩ := HF.out
      clear HF
      have hk' : b27 = false := hk
      subst hk'
      clear hk
      obtain rfl : b25 = true := haft ⟨25, .data⟩ (by simp) rfl
      obtain rfl : b0 = true := haft ⟨0, .phase⟩ (by simp) rfl
      obtain rfl : b1 = true := haft ⟨1, .phase⟩ (by simp) rfl
      obtain rfl : b2 = true := haft ⟨2, .phase⟩ (by simp) rfl
      obtain rfl : b3 = true := haft ⟨3, .phase⟩ (by simp) rfl
      obtain rfl : b4 = true := haft ⟨4, .phase⟩ (by simp) rfl
      obtain rfl : b5 = true := haft ⟨5, .phase⟩ (by simp) rfl
      obtain rfl : b6 = true := haft ⟨6, .phase⟩ (by simp) rfl
      obtain rfl : b7 = true := haft ⟨7, .phase⟩ (by simp) rfl
      obtain rfl : b8 = true := haft ⟨8, .phase⟩ (by simp) rfl
      obtain rfl : b9 = true := haft ⟨9, .phase⟩ (by simp) rfl
      obtain rfl : b10 = true := haft ⟨10, .phase⟩ (by simp) rfl
      obtain rfl : b11 = true := haft ⟨11, .phase⟩ (by simp) rfl
      obtain rfl : b12 = true := haft ⟨12, .phase⟩ (by simp) rfl
      obtain rfl : b13 = true := haft ⟨13, .phase⟩ (by simp) rfl
      obtain rfl : b14 = true := haft ⟨14, .phase⟩ (by simp) rfl
      obtain rfl : b15 = true := haft ⟨15, .phase⟩ (by simp) rfl
      obtain rfl : b16 = true := haft ⟨16, .phase⟩ (by simp) rfl
      obtain rfl : b17 = true := haft ⟨17, .phase⟩ (by simp) rfl
      obtain rfl : b18 = true := haft ⟨18, .phase⟩ (by simp) rfl
      obtain rfl : b19 = true := haft ⟨19, .phase⟩ (by simp) rfl
      obtain rfl : b20 = true := haft ⟨20, .phase⟩ (by simp) rfl
      obtain rfl : b21 = true := haft ⟨21, .phase⟩ (by simp) rfl
      obtain rfl : b22 = true := haft ⟨22, .phase⟩ (by simp) rfl
      obtain rfl : b23 = true := haft ⟨23, .phase⟩ (by simp) rfl
      obtain rfl : b24 = true := haft ⟨24, .phase⟩ (by simp) rfl
      obtain rfl : b26 = true := haft ⟨26, .phase⟩ (by simp) rfl
      clear haft
      obtain ⟨p1, p2, p3, p4, p5, p6, p7, p8, p9, rfl, z5, z6, z8, za, zb⟩ := Z rfl
      obtain rfl := z5 rfl
      obtain rfl := z6 rfl
      obtain ⟨y1, y2, y3⟩ := za rfl
      obtain ⟨e0, e1, e2, e3⟩ := blk4 y3
      have g1 := blkFz y3
      go_simp
      exact hK _ _ ⟨⟨true, true, true, true, true, true, true, true, true, true, true, true, true, true, true, true, true, true, true, true, true, true, true, true, true, true, true, true, b28, false, false, false⟩, ⟨x5, x22, x25, x28, x29, x32, x35, x36, x39, x42, _, _, _, undef, undef, undef⟩, ⟨hh, r0, r1, r2, none, none, none, none, none⟩, rfl, rfl, Lib.hid ⟨N0, P0_0, P0_1, P0_2, N1, P1_0, P1_1, P1_2, N2, P2_0, P2_1, P2_2, fun _ => ⟨p1, p2, p3, p4, p5, p6, p7, p8, p9, rfl, fun _ => rfl, fun _ => rfl, z8, nofun, fun _ => ⟨y1.set4 (w.heap.size + 2) (by omega) y3 (by decide) _ _ _ _, bel4 y2 (by omega) _ _ _ _, blk4s y3⟩⟩, nofun⟩⟩
    refine StepsU.cons ?_ ?_
    · intro Q E0 listed a w' hI hM hk haft K hK
      obtain ⟨⟨b0, b1, b2, b3, b4, b5, b6, b7, b8, b9, b10, b11, b12, b13, b14, b15, b16, b17, b18, b19, b20, b21, b22, b23, b24, b25, b26, b27, b28, b29_, b30_, b31_⟩, ⟨x5, x22, x25, x28, x29, x32, x35, x36, x39, x42, x44, x45, x46, xx13_, xx14_, xx15_⟩, ⟨hh, r0, r1, r2, r3, r4, r5, r6, r7⟩, hl, ha, HF⟩ := hI
      dsimp only at hl ha HF
      subst hl; subst ha
      obtain ⟨N0, P0_0, P0_1, P0_2, N1, P1_0, P1_1, P1_2, N2, P2_0, P2_1, P2_2, Z, HS⟩ := HF.out
      clear HF
      have hk' : b28 = false := hk
      subst hk'
      clear hk
      obtain rfl : b26 = true := haft ⟨26, .data⟩ (by simp) rfl
      obtain rfl : b0 = true := haft ⟨0, .phase⟩ (by simp) rfl
      obtain rfl : b1 = true := haft ⟨1, .phase⟩ (by simp) rfl
      obtain rfl : b2 = true := haft ⟨2, .phase⟩ (by simp) rfl
      obtain rfl : b3 = true := haft ⟨3, .phase⟩ (by simp) rfl
      obtain rfl : b4 = true := haft ⟨4, .phase⟩ (by simp) rfl
      obtain rfl : b5 = true := haft ⟨5, .phase⟩ (by simp) rfl
      obtain rfl : b6 = true := haft ⟨6, .phase⟩ (by simp) rfl
      obtain rfl : b7 = true := haft ⟨7, .phase⟩ (by simp) rfl
      obtain rfl : b8 = true := haft ⟨8, .phase⟩ (by simp) rfl
      obtain rfl : b9 = true := haft ⟨9, .phase⟩ (by simp) rfl
      obtain rfl : b10 = true := haft ⟨10, .phase⟩ (by simp) rfl
      obtain rfl : b11 = true := haft ⟨11, .phase⟩ (by simp) rfl
      obtain rfl : b12 = true := haft ⟨12, .phase⟩ (by simp) rfl
      obtain rfl : b13 = true := haft ⟨13, .phase⟩ (by simp) rfl
      obtain rfl : b14 = true := haft ⟨14, .phase⟩ (by simp) rfl
      obtain rfl : b15 = true := haft ⟨15, .phase⟩ (by simp) rfl
      obtain rfl : b16 = true := haft ⟨16, .phase⟩ (by simp) rfl
      obtain rfl : b17 = true := haft ⟨17, .phase⟩ (by simp) rfl
      obtain rfl : b18 = true := haft ⟨18, .phase⟩ (by simp) rfl
      obtain rfl : b19 = true := haft ⟨19, .phase⟩ (by simp) rfl
      obtain rfl : b20 = true := haft ⟨20, .phase⟩ (by simp) rfl
      obtain rfl : b21 = true := haft ⟨21, .phase⟩ (by simp) rfl
      obtain rfl : b22 = true := haft ⟨22, .phase⟩ (by simp) rfl
      obtain rfl : b23 = true := haft ⟨23, .phase⟩ (by simp) rfl
      obtain rfl : b24 = true := haft ⟨24, .phase⟩ (by simp) rfl
      obtain rfl : b25 = true := haft ⟨25, .phase⟩ (by simp) rfl
      clear haft
      obtain ⟨p1, p2, p3, p4, p5, p6, p7, p8, p9, rfl, z5, z6, z8, za, zb⟩ := Z rfl
      obtain rfl := z6 rfl
      obtain rfl := z5 rfl
      go_simp
      exact hK _ _ ⟨⟨true, true, true, true, true, true, true, true, true, true, true, true, true, true, true, true, true, true, true, true, true, true, true, true, true, true, true, b27, true, false, false, false⟩, ⟨_, x22, x25, x28, x29, x32, x35, x36, x39, x42, _, _, _, undef, undef, undef⟩, ⟨hh, r0, r1, r2, none, none, none, none, none⟩, rfl, rfl, Lib.hid ⟨N0, P0_0, P0_1, P0_2, N1, P1_0, P1_1, P1_2, N2, P2_0, P2_1, P2_2, fun _ => ⟨p1, p2, p3, p4, p5, p6, p7, p8, p9, rfl, fun _ => rfl, fun _ => rfl, fun _ => rfl, za, zb⟩, nofun⟩⟩
    exact StepsU.nil
  · intro G0 hG0 listed a w' hI hall
    obtain ⟨⟨b0, b1, b2, b3, b4, b5, b6, b7, b8, b9, b10, b11, b12, b13, b14, b15, b16, b17, b18, b19, b20, b21, b22, b23, b24, b25, b26, b27, b28, b29_, b30_, b31_⟩, ⟨x5, x22, x25, x28, x29, x32, x35, x36, x39, x42, x44, x45, x46, xx13_, xx14_, xx15_⟩, ⟨hh, r0, r1, r2, r3, r4, r5, r6, r7⟩, hl, ha, HF⟩ := hI
    dsimp only at hl ha HF
    subst hl; subst ha
    obtain rfl : b0 = true := hall 0 (by decide)
    obtain rfl : b1 = true := hall 1 (by decide)
    obtain rfl : b2 = true := hall 2 (by decide)
    obtain rfl : b3 = true := hall 3 (by decide)
    obtain rfl : b4 = true := hall 4 (by decide)
    obtain rfl : b5 = true := hall 5 (by decide)
    obtain rfl : b6 = true := hall 6 (by decide)
    obtain rfl : b7 = true := hall 7 (by decide)
    obtain rfl : b8 = true := hall 8 (by decide)
    obtain rfl : b9 = true := hall 9 (by decide)
    obtain rfl : b10 = true := hall 10 (by decide)
    obtain rfl : b11 = true := hall 11 (by decide)
    obtain rfl : b12 = true := hall 12 (by decide)
    obtain rfl : b13 = true := hall 13 (by decide)
    obtain rfl : b14 = true := hall 14 (by decide)
    obtain rfl : b15 = true := hall 15 (by decide)
    obtain rfl : b16 = true := hall 16 (by decide)
    obtain rfl : b17 = true := hall 17 (by decide)
    obtain rfl : b18 = true := hall 18 (by decide)
    obtain rfl : b19 = true := hall 19 (by decide)
    obtain rfl : b20 = true := hall 20 (by decide)
    obtain rfl : b21 = true := hall 21 (by decide)
    obtain rfl : b22 = true := hall 22 (by decide)
    obtain rfl : b23 = true := hall 23 (by decide)
    obtain rfl : b24 = true := hall 24 (by decide)
    obtain rfl : b25 = true := hall 25 (by decide)
    obtain rfl : b26 = true := hall 26 (by decide)
    obtain rfl : b27 = true := hall 27 (by decide)
    obtain rfl : b28 = true := hall 28 (by decide)
    exact hG0 _ _ _ _ _ _ _ _ _ _ _ _ _ _ (HF.out.2.2.2.2.2.2.2.2.2.2.2.2.1 rfl)
  · intro x5 x22 x25 x28 x29 x32 x35 x36 x39 x42 x44 x45 x46 w' hFin
    obtain ⟨p1, p2, p3, p4, p5, p6, p7, p8, p9, rfl, h45, h46, h5, _, hpost⟩ := hFin
    obtain ⟨HN9, hb9, k9⟩ := hpost rfl
    obtain rfl := h45 rfl
    obtain rfl := h46 rfl
    obtain rfl := h5 rfl
    clear hpost h45 h46 h5
    have HO9 := Lib.hid HN9; clear HN9 HK HO
    obtain ⟨e0, e1, e2, e3⟩ := blk4 k9
    have g1 := blkFz k9
    go_wp2
    refine bodyPost_ret (v := .tuple #[.agg #[.int .i64 Es, .slice p1 p2 p3, .slice p4 p5 p6, .slice p7 p8 p9], .bool Yb]) (by simp [results, Try.results137, go_sem, e0, e1, e2, e3, g1]) rfl ⟨_, _, _, by rw [HN.out, HBn.out, HE.out, HEs.out, HYb.out], hb9, ?_⟩
    rw [HN.out, HE.out]
    exact HO9.out
end Go.Proofs.Ytbcjhiponbfbnaa
