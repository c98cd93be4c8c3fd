/- The automaton for the words of two languages: the program's. -/
import Derived.Test.YtnjddneelkdmoaaShf
import Derived.Test.YtnjddneelkdmoaaRgv
import Derived.Test.YtnjddneelkdmoaaTrn
import Derived.Test.YtnjddneelkdmoaaSli
set_option linter.unusedSimpArgs false
set_option linter.unusedVariables false
set_option linter.unusedSectionVars false
namespace Go.Proofs.Ytnjddneelkdmoaa
open Go.RowKit
set_option maxRecDepth 100000
variable {S T : Nat → Prop}
set_option maxHeartbeats 8000000 in
theorem eitherNfa_c (vma vfa vea vmb vfb veb : Value) (A B : NfaD) (w : World) (hA : NfaR S w vma vfa vea A) (hB : NfaR T w vmb vfb veb B) (okA : okN A) (okB : okN B) :
    Calls Try.prog 166 #[.agg #[.int .i64 A.states, vma, vfa, vea], .agg #[.int .i64 B.states, vmb, vfb, veb]] w (RNf w (eitherD A B)) := by
  obtain ⟨a1a, c1a, a2a, c2a, a3a, c3a, rfl, rfl, rfl, _, _, _⟩ := hA.shapes
  obtain ⟨a1b, c1b, a2b, c2b, a3b, c3b, rfl, rfl, rfl, _, _, _⟩ := hB.shapes
  obtain ⟨W, hW⟩ : ∃ W, W = ((w.alloc (.cells #[.int .i64 A.states, .slice a1a A.moves.length c1a, .slice a2a A.firsts.length c2a, .slice a3a A.ends.length c3a] 36)).alloc (.cells #[.int .i64 B.states, .slice a1b B.moves.length c1b, .slice a2b B.firsts.length c2b, .slice a3b B.ends.length c3b] 36)).alloc (.cells #[.int .i64 0, .slice none 0 0, .slice none 0 0, .slice none 0 0] 36) := ⟨_, rfl⟩
  have Hb0 : Hid (Below w.heap.size w W) := by rw [hW]; exact (((Below.refl _ _).alloc (Nat.le_refl _) _).alloc (by simp) _).alloc (by simp; omega) _
  have k0 : Hid (W.heap[w.heap.size]? = some (.cells #[.int .i64 A.states, .slice a1a A.moves.length c1a, .slice a2a A.firsts.length c2a, .slice a3a A.ends.length c3a] 36 (0, 0))) := by rw [hW]; exact blkOld (blkOld (blkNew _ _ rfl))
  have k1 : Hid (W.heap[w.heap.size + 1]? = some (.cells #[.int .i64 B.states, .slice a1b B.moves.length c1b, .slice a2b B.firsts.length c2b, .slice a3b B.ends.length c3b] 36 (0, 0))) := by rw [hW]; exact blkOld (blkNew _ _ (by simp))
  have k2 : Hid (W.heap[w.heap.size + 2]? = some (.cells #[.int .i64 0, .slice none 0 0, .slice none 0 0, .slice none 0 0] 36 (0, 0))) := by rw [hW]; exact blkNew _ _ (by simp)
  have hz : Hid (W.heap.size = w.heap.size + 3) := by rw [hW]; simp [Hid]
  have HA0 := Lib.hid hA; have HB0 := Lib.hid hB
  have HA := Lib.hid (hA.stay (kpB Hb0.out)); have HB := Lib.hid (hB.stay (kpB Hb0.out)); clear hA hB
  have HLA := Lib.hid (okN_len okA); have HLB := Lib.hid (okN_len okB)
  have HRB := Lib.hid (okN_rng okB)
  have HOA := Lib.hid okA; have HOB := Lib.hid okB
  have hsA := Lib.hid okA.1
  have hwr : IntKind.i64.wrap (A.states + B.states) = A.states + B.states := IntWalk.i64_in _ (by have := okA.1; have := okB.1; omega)
  obtain ⟨sm, HSM⟩ : ∃ sm, Hid (A.moves ++ B.moves.map (sft A.states) = sm) := ⟨_, rfl⟩
  obtain ⟨bf, HBF⟩ : ∃ bf, Hid (B.firsts.map (· + A.states) = bf) := ⟨_, rfl⟩
  obtain ⟨be, HBE⟩ : ∃ be, Hid (B.ends.map (· + A.states) = be) := ⟨_, rfl⟩
  obtain ⟨fb, HFB⟩ : ∃ fb, Hid (A.firsts ++ bf = fb) := ⟨_, rfl⟩
  obtain ⟨eb, HEB⟩ : ∃ eb, Hid (A.ends ++ be = eb) := ⟨_, rfl⟩
  have HSL : Hid (sm.length ≤ 800 ∧ bf.length ≤ 40 ∧ be.length ≤ 40) := Lib.hid (by rw [← HSM.out, ← HBF.out, ← HBE.out]; simp only [List.length_append, List.length_map]; have := okN_len okA; have := okN_len okB; omega)
  have HW := Lib.hid hW; clear hW okA okB
  go_enter Try.func166, Try.ntmps166
  go_wp2_with fail
  rw [← HW.out]
  clear HW
  have HK : Hid (∀ w', Below W.heap.size W w' → (w'.cell? ⟨w.heap.size, 0, none⟩ = some (.int .i64 A.states) ∧ w'.cell? ⟨w.heap.size, 1, none⟩ = some (.slice a1a A.moves.length c1a) ∧ w'.cell? ⟨w.heap.size, 2, none⟩ = some (.slice a2a A.firsts.length c2a) ∧ w'.cell? ⟨w.heap.size, 3, none⟩ = some (.slice a3a A.ends.length c3a)) ∧
      (w'.cell? ⟨w.heap.size + 1, 0, none⟩ = some (.int .i64 B.states) ∧ w'.cell? ⟨w.heap.size + 1, 1, none⟩ = some (.slice a1b B.moves.length c1b) ∧ w'.cell? ⟨w.heap.size + 1, 2, none⟩ = some (.slice a2b B.firsts.length c2b) ∧ w'.cell? ⟨w.heap.size + 1, 3, none⟩ = some (.slice a3b B.ends.length c3b))) := fun w' hb => ⟨blk4 (blkBel hb k0.out), blk4 (blkBel hb k1.out)⟩
  refine wp_region_inv2 [(1, 0), (3, 2), (4, 1), (4, 3), (7, 5), (7, 6), (9, 8), (11, 10), (13, 12), (14, 11), (14, 13), (15, 9), (15, 14), (16, 15), (18, 17), (20, 19), (22, 21), (23, 20), (23, 22), (24, 18), (24, 23), (25, 24), (26, 4), (26, 7), (26, 16), (26, 25), (27, 0), (27, 1), (27, 2), (27, 3), (27, 4), (27, 5), (27, 6), (27, 7), (27, 8), (27, 9), (27, 10), (27, 11), (27, 12), (27, 13), (27, 14), (27, 15), (27, 16), (27, 17), (27, 18), (27, 19), (27, 20), (27, 21), (27, 22), (27, 23), (27, 24), (27, 25), (27, 26)] (fun listed a w' => ∃ (vb : Vb) (vx : Vx) (vr : Vr), listed = #[vb.b0, vb.b1, vb.b2, vb.b3, vb.b4, vb.b5, vb.b6, vb.b7, vb.b8, vb.b9, vb.b10, vb.b11, vb.b12, vb.b13, vb.b14, vb.b15, vb.b16, vb.b17, vb.b18, vb.b19, vb.b20, vb.b21, vb.b22, vb.b23, vb.b24, vb.b25, vb.b26, vb.b27] ∧ a = { tmps := #[.agg #[.int .i64 A.states, .slice a1a A.moves.length c1a, .slice a2a A.firsts.length c2a, .slice a3a A.ends.length c3a], .agg #[.int .i64 B.states, .slice a1b B.moves.length c1b, .slice a2b B.firsts.length c2b, .slice a3b B.ends.length c3b], .pointer (some ⟨w.heap.size, 0, none⟩), .pointer (some ⟨w.heap.size + 1, 0, none⟩), .pointer (some ⟨w.heap.size + 2, 0, none⟩), cond vb.b0 (.pointer (some ⟨w.heap.size, 0, none⟩)) (undef), cond vb.b1 (.int .i64 A.states) (undef), cond vb.b2 (.pointer (some ⟨w.heap.size + 1, 0, none⟩)) (undef), cond vb.b3 (.int .i64 B.states) (undef), cond vb.b4 (.int .i64 (A.states + B.states)) (undef), cond vb.b5 (.agg #[.int .i64 A.states, .slice a1a A.moves.length c1a, .slice a2a A.firsts.length c2a, .slice a3a A.ends.length c3a]) (undef), cond vb.b6 (.agg #[.int .i64 B.states, .slice a1b B.moves.length c1b, .slice a2b B.firsts.length c2b, .slice a3b B.ends.length c3b]) (undef), vx.x0, cond vb.b8 (.pointer (some ⟨w.heap.size, 2, none⟩)) (undef), cond vb.b9 (.slice a2a A.firsts.length c2a) (undef), cond vb.b10 (.pointer (some ⟨w.heap.size + 1, 2, none⟩)) (undef), cond vb.b11 (.slice a2b B.firsts.length c2b) (undef), cond vb.b12 (.pointer (some ⟨w.heap.size, 0, none⟩)) (undef), cond vb.b13 (.int .i64 A.states) (undef), vx.x1, vx.x2, vx.x3, cond vb.b17 (.pointer (some ⟨w.heap.size, 3, none⟩)) (undef), cond vb.b18 (.slice a3a A.ends.length c3a) (undef), cond vb.b19 (.pointer (some ⟨w.heap.size + 1, 3, none⟩)) (undef), cond vb.b20 (.slice a3b B.ends.length c3b) (undef), cond vb.b21 (.pointer (some ⟨w.heap.size, 0, none⟩)) (undef), cond vb.b22 (.int .i64 A.states) (undef), vx.x4, vx.x5, vx.x6, cond vb.b26 (.agg #[.int .i64 (A.states + B.states), vx.x0, vx.x3, vx.x6]) (undef)], defers := [] } ∧ Hid ((vb.b7 = false → vr.r0 = none) ∧ (vb.b7 = true → ∃ (g : Option Addr) (c : Nat), vx.x0 = .slice (g) (sm.length) c ∧ vr.r0 = some ⟨40, 3, vx.x0, sm.length, cells3 sm⟩) ∧ (vb.b14 = false → vr.r1 = none) ∧ (vb.b14 = true → ∃ (g : Option Addr) (c : Nat), vx.x1 = .slice (g) (bf.length) c ∧ vr.r1 = some ⟨3, 1, vx.x1, bf.length, bf.map (.int .i64 ·)⟩) ∧ (vb.b15 = false → vr.r2 = none) ∧ (vb.b15 = true → ∃ (g : Nat) (c : Nat), vx.x2 = .slice (some ⟨g, 0, none⟩) (2) c ∧ vr.r2 = some ⟨34, 1, vx.x2, 2, [.slice a2a A.firsts.length c2a, vx.x1]⟩) ∧ (vb.b16 = false → vr.r3 = none) ∧ (vb.b16 = true → ∃ (g : Option Addr) (c : Nat), vx.x3 = .slice (g) (fb.length) c ∧ vr.r3 = some ⟨3, 1, vx.x3, fb.length, fb.map (.int .i64 ·)⟩) ∧ (vb.b23 = false → vr.r4 = none) ∧ (vb.b23 = true → ∃ (g : Option Addr) (c : Nat), vx.x4 = .slice (g) (be.length) c ∧ vr.r4 = some ⟨3, 1, vx.x4, be.length, be.map (.int .i64 ·)⟩) ∧ (vb.b24 = false → vr.r5 = none) ∧ (vb.b24 = true → ∃ (g : Nat) (c : Nat), vx.x5 = .slice (some ⟨g, 0, none⟩) (2) c ∧ vr.r5 = some ⟨34, 1, vx.x5, 2, [.slice a3a A.ends.length c3a, vx.x4]⟩) ∧ (vb.b25 = false → vr.r6 = none) ∧ (vb.b25 = true → ∃ (g : Option Addr) (c : Nat), vx.x6 = .slice (g) (eb.length) c ∧ vr.r6 = some ⟨3, 1, vx.x6, eb.length, eb.map (.int .i64 ·)⟩) ∧ (vb.b27 = true → ∃ (vm vf ve : Value), NfaO w.heap.size w' vm vf ve ⟨A.states + B.states, sm, fb, eb⟩ ∧ Below w.heap.size w w' ∧ w'.heap[w.heap.size + 2]? = some (.cells #[.int .i64 (A.states + B.states), vm, vf, ve] 36 (0, 0))) ∧ (vb.b27 = false → Sr W w' none [vr.r0, vr.r1, vr.r2, vr.r3, vr.r4, vr.r5, vr.r6]))) (fun G => ∀ (x12 x19 x20 x21 x28 x29 x30 : Value) (w' : World), (∃ (vm vf ve : Value), NfaO w.heap.size w' vm vf ve ⟨A.states + B.states, sm, fb, eb⟩ ∧ Below w.heap.size w w' ∧ w'.heap[w.heap.size + 2]? = some (.cells #[.int .i64 (A.states + B.states), vm, vf, ve] 36 (0, 0))) → G { tmps := #[.agg #[.int .i64 A.states, .slice a1a A.moves.length c1a, .slice a2a A.firsts.length c2a, .slice a3a A.ends.length c3a], .agg #[.int .i64 B.states, .slice a1b B.moves.length c1b, .slice a2b B.firsts.length c2b, .slice a3b B.ends.length c3b], .pointer (some ⟨w.heap.size, 0, none⟩), .pointer (some ⟨w.heap.size + 1, 0, none⟩), .pointer (some ⟨w.heap.size + 2, 0, none⟩), .pointer (some ⟨w.heap.size, 0, none⟩), .int .i64 A.states, .pointer (some ⟨w.heap.size + 1, 0, none⟩), .int .i64 B.states, .int .i64 (A.states + B.states), .agg #[.int .i64 A.states, .slice a1a A.moves.length c1a, .slice a2a A.firsts.length c2a, .slice a3a A.ends.length c3a], .agg #[.int .i64 B.states, .slice a1b B.moves.length c1b, .slice a2b B.firsts.length c2b, .slice a3b B.ends.length c3b], x12, .pointer (some ⟨w.heap.size, 2, none⟩), .slice a2a A.firsts.length c2a, .pointer (some ⟨w.heap.size + 1, 2, none⟩), .slice a2b B.firsts.length c2b, .pointer (some ⟨w.heap.size, 0, none⟩), .int .i64 A.states, x19, x20, x21, .pointer (some ⟨w.heap.size, 3, none⟩), .slice a3a A.ends.length c3a, .pointer (some ⟨w.heap.size + 1, 3, none⟩), .slice a3b B.ends.length c3b, .pointer (some ⟨w.heap.size, 0, none⟩), .int .i64 A.states, x28, x29, x30, .agg #[.int .i64 (A.states + B.states), x12, x21, x30]], defers := [] } w') (by kernel_rfl) (by kernel_rfl) (by kernel_rfl) (by kernel_rfl) ?_ ?_ ?_ ?_
  · exact ⟨⟨false, false, false, false, false, false, false, false, false, false, false, false, false, false, false, false, false, false, false, false, false, false, false, false, false, false, false, false, false, false, false, false⟩, ⟨undef, undef, undef, undef, undef, undef, undef, undef, undef, undef, undef, undef, undef, undef, undef, undef⟩, ⟨none, none, none, none, none, none, none, none, none⟩, rfl, rfl, Lib.hid ⟨fun _ => rfl, nofun, fun _ => rfl, nofun, fun _ => rfl, nofun, fun _ => rfl, nofun, fun _ => rfl, nofun, fun _ => rfl, nofun, fun _ => rfl, nofun, nofun, fun _ => Sr.start W 7⟩⟩
  · refine StepsU.cons ?_ ?_
    · intro Q E0 listed a w' hI hM hk haft K hK
      obtain ⟨⟨b0, b1, b2, b3, b4, b5, b6, b7, b8, b9, b10, b11, b12, b13, b14, b15, b16, b17, b18, b19, b20, b21, b22, b23, b24, b25, b26, b27, b28_, b29_, b30_, b31_⟩, ⟨x12, x19, x20, x21, x28, x29, x30, xx7_, xx8_, xx9_, xx10_, xx11_, xx12_, xx13_, xx14_, xx15_⟩, ⟨hh, r0, r1, r2, r3, r4, r5, r6, r7⟩, hl, ha, HF⟩ := hI
      dsimp only at hl ha HF
      subst hl; subst ha
      obtain ⟨N0, P0_0, N1, P1_0, N2, P2_0, N3, P3_0, N4, P4_0, N5, P5_0, N6, P6_0, Z, HS⟩ := HF.out
      clear HF
      have hk' : b0 = false := hk
      subst hk'
      clear hk
      obtain rfl : b1 = false := by cases b1 with | false => rfl | true => exact absurd (hM 1 0 rfl rfl) Bool.false_ne_true
      obtain rfl : b4 = false := by cases b4 with | false => rfl | true => exact absurd (hM 4 1 rfl rfl) Bool.false_ne_true
      obtain rfl : b26 = false := by cases b26 with | false => rfl | true => exact absurd (hM 26 4 rfl rfl) Bool.false_ne_true
      obtain rfl : b27 = false := by cases b27 with | false => rfl | true => exact absurd (hM 27 0 rfl rfl) Bool.false_ne_true
      clear haft
      have hSr := HS rfl
      have hBl := hSr.bel
      obtain ⟨⟨q0, q1, q2, q3⟩, ⟨p0, p1, p2, p3⟩⟩ := HK.out w' hBl
      go_simp
      exact hK _ _ ⟨⟨true, false, b2, b3, false, b5, b6, b7, b8, b9, b10, b11, b12, b13, b14, b15, b16, b17, b18, b19, b20, b21, b22, b23, b24, b25, false, false, false, false, false, false⟩, ⟨x12, x19, x20, x21, x28, x29, x30, undef, undef, undef, undef, undef, undef, undef, undef, undef⟩, ⟨hh, r0, r1, r2, r3, r4, r5, r6, none⟩, rfl, rfl, Lib.hid ⟨N0, P0_0, N1, P1_0, N2, P2_0, N3, P3_0, N4, P4_0, N5, P5_0, N6, P6_0, nofun, fun _ => hSr⟩⟩
    refine StepsU.cons ?_ ?_
    · intro Q E0 listed a w' hI hM hk haft K hK
      obtain ⟨⟨b0, b1, b2, b3, b4, b5, b6, b7, b8, b9, b10, b11, b12, b13, b14, b15, b16, b17, b18, b19, b20, b21, b22, b23, b24, b25, b26, b27, b28_, b29_, b30_, b31_⟩, ⟨x12, x19, x20, x21, x28, x29, x30, xx7_, xx8_, xx9_, xx10_, xx11_, xx12_, xx13_, xx14_, xx15_⟩, ⟨hh, r0, r1, r2, r3, r4, r5, r6, r7⟩, hl, ha, HF⟩ := hI
      dsimp only at hl ha HF
      subst hl; subst ha
      obtain ⟨N0, P0_0, N1, P1_0, N2, P2_0, N3, P3_0, N4, P4_0, N5, P5_0, N6, P6_0, Z, HS⟩ := HF.out
      clear HF
      have hk' : b1 = false := hk
      subst hk'
      clear hk
      obtain rfl : b4 = false := by cases b4 with | false => rfl | true => exact absurd (hM 4 1 rfl rfl) Bool.false_ne_true
      obtain rfl : b26 = false := by cases b26 with | false => rfl | true => exact absurd (hM 26 4 rfl rfl) Bool.false_ne_true
      obtain rfl : b27 = false := by cases b27 with | false => rfl | true => exact absurd (hM 27 1 rfl rfl) Bool.false_ne_true
      obtain rfl : b0 = true := haft ⟨0, .data⟩ (by simp) rfl
      clear haft
      have hSr := HS rfl
      have hBl := hSr.bel
      obtain ⟨⟨q0, q1, q2, q3⟩, ⟨p0, p1, p2, p3⟩⟩ := HK.out w' hBl
      go_simp
      exact hK _ _ ⟨⟨true, true, b2, b3, false, b5, b6, b7, b8, b9, b10, b11, b12, b13, b14, b15, b16, b17, b18, b19, b20, b21, b22, b23, b24, b25, false, false, false, false, false, false⟩, ⟨x12, x19, x20, x21, x28, x29, x30, undef, undef, undef, undef, undef, undef, undef, undef, undef⟩, ⟨hh, r0, r1, r2, r3, r4, r5, r6, none⟩, rfl, rfl, Lib.hid ⟨N0, P0_0, N1, P1_0, N2, P2_0, N3, P3_0, N4, P4_0, N5, P5_0, N6, P6_0, nofun, fun _ => hSr⟩⟩
    refine StepsU.cons ?_ ?_
    · intro Q E0 listed a w' hI hM hk haft K hK
      obtain ⟨⟨b0, b1, b2, b3, b4, b5, b6, b7, b8, b9, b10, b11, b12, b13, b14, b15, b16, b17, b18, b19, b20, b21, b22, b23, b24, b25, b26, b27, b28_, b29_, b30_, b31_⟩, ⟨x12, x19, x20, x21, x28, x29, x30, xx7_, xx8_, xx9_, xx10_, xx11_, xx12_, xx13_, xx14_, xx15_⟩, ⟨hh, r0, r1, r2, r3, r4, r5, r6, r7⟩, hl, ha, HF⟩ := hI
      dsimp only at hl ha HF
      subst hl; subst ha
      obtain ⟨N0, P0_0, N1, P1_0, N2, P2_0, N3, P3_0, N4, P4_0, N5, P5_0, N6, P6_0, Z, HS⟩ := HF.out
      clear HF
      have hk' : b2 = false := hk
      subst hk'
      clear hk
      obtain rfl : b3 = false := by cases b3 with | false => rfl | true => exact absurd (hM 3 2 rfl rfl) Bool.false_ne_true
      obtain rfl : b4 = false := by cases b4 with | false => rfl | true => exact absurd (hM 4 3 rfl rfl) Bool.false_ne_true
      obtain rfl : b26 = false := by cases b26 with | false => rfl | true => exact absurd (hM 26 4 rfl rfl) Bool.false_ne_true
      obtain rfl : b27 = false := by cases b27 with | false => rfl | true => exact absurd (hM 27 2 rfl rfl) Bool.false_ne_true
      clear haft
      have hSr := HS rfl
      have hBl := hSr.bel
      obtain ⟨⟨q0, q1, q2, q3⟩, ⟨p0, p1, p2, p3⟩⟩ := HK.out w' hBl
      go_simp
      exact hK _ _ ⟨⟨b0, b1, true, false, false, b5, b6, b7, b8, b9, b10, b11, b12, b13, b14, b15, b16, b17, b18, b19, b20, b21, b22, b23, b24, b25, false, false, false, false, false, false⟩, ⟨x12, x19, x20, x21, x28, x29, x30, undef, undef, undef, undef, undef, undef, undef, undef, undef⟩, ⟨hh, r0, r1, r2, r3, r4, r5, r6, none⟩, rfl, rfl, Lib.hid ⟨N0, P0_0, N1, P1_0, N2, P2_0, N3, P3_0, N4, P4_0, N5, P5_0, N6, P6_0, nofun, fun _ => hSr⟩⟩
    refine StepsU.cons ?_ ?_
    · intro Q E0 listed a w' hI hM hk haft K hK
      obtain ⟨⟨b0, b1, b2, b3, b4, b5, b6, b7, b8, b9, b10, b11, b12, b13, b14, b15, b16, b17, b18, b19, b20, b21, b22, b23, b24, b25, b26, b27, b28_, b29_, b30_, b31_⟩, ⟨x12, x19, x20, x21, x28, x29, x30, xx7_, xx8_, xx9_, xx10_, xx11_, xx12_, xx13_, xx14_, xx15_⟩, ⟨hh, r0, r1, r2, r3, r4, r5, r6, r7⟩, hl, ha, HF⟩ := hI
      dsimp only at hl ha HF
      subst hl; subst ha
      obtain ⟨N0, P0_0, N1, P1_0, N2, P2_0, N3, P3_0, N4, P4_0, N5, P5_0, N6, P6_0, Z, HS⟩ := HF.out
      clear HF
      have hk' : b3 = false := hk
      subst hk'
      clear hk
      obtain rfl : b4 = false := by cases b4 with | false => rfl | true => exact absurd (hM 4 3 rfl rfl) Bool.false_ne_true
      obtain rfl : b26 = false := by cases b26 with | false => rfl | true => exact absurd (hM 26 4 rfl rfl) Bool.false_ne_true
      obtain rfl : b27 = false := by cases b27 with | false => rfl | true => exact absurd (hM 27 3 rfl rfl) Bool.false_ne_true
      obtain rfl : b2 = true := haft ⟨2, .data⟩ (by simp) rfl
      clear haft
      have hSr := HS rfl
      have hBl := hSr.bel
      obtain ⟨⟨q0, q1, q2, q3⟩, ⟨p0, p1, p2, p3⟩⟩ := HK.out w' hBl
      go_simp
      exact hK _ _ ⟨⟨b0, b1, true, true, false, b5, b6, b7, b8, b9, b10, b11, b12, b13, b14, b15, b16, b17, b18, b19, b20, b21, b22, b23, b24, b25, false, false, false, false, false, false⟩, ⟨x12, x19, x20, x21, x28, x29, x30, undef, undef, undef, undef, undef, undef, undef, undef, undef⟩, ⟨hh, r0, r1, r2, r3, r4, r5, r6, none⟩, rfl, rfl, Lib.hid ⟨N0, P0_0, N1, P1_0, N2, P2_0, N3, P3_0, N4, P4_0, N5, P5_0, N6, P6_0, nofun, fun _ => hSr⟩⟩
    refine StepsU.cons ?_ ?_
    · intro Q E0 listed a w' hI hM hk haft K hK
      obtain ⟨⟨b0, b1, b2, b3, b4, b5, b6, b7, b8, b9, b10, b11, b12, b13, b14, b15, b16, b17, b18, b19, b20, b21, b22, b23, b24, b25, b26, b27, b28_, b29_, b30_, b31_⟩, ⟨x12, x19, x20, x21, x28, x29, x30, xx7_, xx8_, xx9_, xx10_, xx11_, xx12_, xx13_, xx14_, xx15_⟩, ⟨hh, r0, r1, r2, r3, r4, r5, r6, r7⟩, hl, ha, HF⟩ := hI
      dsimp only at hl ha HF
      subst hl; subst ha
      obtain ⟨N0, P0_0, N1, P1_0, N2, P2_0, N3, P3_0, N4, P4_0, N5, P5_0, N6, P6_0, Z, HS⟩ := HF.out
      clear HF
      have hk' : b4 = false := hk
      subst hk'
      clear hk
      obtain rfl : b26 = false := by cases b26 with | false => rfl | true => exact absurd (hM 26 4 rfl rfl) Bool.false_ne_true
      obtain rfl : b27 = false := by cases b27 with | false => rfl | true => exact absurd (hM 27 4 rfl rfl) Bool.false_ne_true
      obtain rfl : b1 = true := haft ⟨1, .data⟩ (by simp) rfl
      obtain rfl : b3 = true := haft ⟨3, .data⟩ (by simp) rfl
      obtain rfl : b0 = true := hM 1 0 rfl rfl
      obtain rfl : b2 = true := hM 3 2 rfl rfl
      clear haft
      have hSr := HS rfl
      have hBl := hSr.bel
      obtain ⟨⟨q0, q1, q2, q3⟩, ⟨p0, p1, p2, p3⟩⟩ := HK.out w' hBl
      go_simp
      exact hK _ _ ⟨⟨true, true, true, true, true, b5, b6, b7, b8, b9, b10, b11, b12, b13, b14, b15, b16, b17, b18, b19, b20, b21, b22, b23, b24, b25, false, false, false, false, false, false⟩, ⟨x12, x19, x20, x21, x28, x29, x30, undef, undef, undef, undef, undef, undef, undef, undef, undef⟩, ⟨hh, r0, r1, r2, r3, r4, r5, r6, none⟩, rfl, rfl, Lib.hid ⟨N0, P0_0, N1, P1_0, N2, P2_0, N3, P3_0, N4, P4_0, N5, P5_0, N6, P6_0, nofun, fun _ => hSr⟩⟩
    refine StepsU.cons ?_ ?_
    · intro Q E0 listed a w' hI hM hk haft K hK
      obtain ⟨⟨b0, b1, b2, b3, b4, b5, b6, b7, b8, b9, b10, b11, b12, b13, b14, b15, b16, b17, b18, b19, b20, b21, b22, b23, b24, b25, b26, b27, b28_, b29_, b30_, b31_⟩, ⟨x12, x19, x20, x21, x28, x29, x30, xx7_, xx8_, xx9_, xx10_, xx11_, xx12_, xx13_, xx14_, xx15_⟩, ⟨hh, r0, r1, r2, r3, r4, r5, r6, r7⟩, hl, ha, HF⟩ := hI
      dsimp only at hl ha HF
      subst hl; subst ha
      obtain ⟨N0, P0_0, N1, P1_0, N2, P2_0, N3, P3_0, N4, P4_0, N5, P5_0, N6, P6_0, Z, HS⟩ := HF.out
      clear HF
      have hk' : b5 = false := hk
      subst hk'
      clear hk
      obtain rfl : b7 = false := by cases b7 with | false => rfl | true => exact absurd (hM 7 5 rfl rfl) Bool.false_ne_true
      obtain rfl : b26 = false := by cases b26 with | false => rfl | true => exact absurd (hM 26 7 rfl rfl) Bool.false_ne_true
      obtain rfl : b27 = false := by cases b27 with | false => rfl | true => exact absurd (hM 27 5 rfl rfl) Bool.false_ne_true
      clear haft
      have hSr := HS rfl
      have hBl := hSr.bel
      obtain ⟨⟨q0, q1, q2, q3⟩, ⟨p0, p1, p2, p3⟩⟩ := HK.out w' hBl
      go_simp
      exact hK _ _ ⟨⟨b0, b1, b2, b3, b4, true, b6, false, b8, b9, b10, b11, b12, b13, b14, b15, b16, b17, b18, b19, b20, b21, b22, b23, b24, b25, false, false, false, false, false, false⟩, ⟨x12, x19, x20, x21, x28, x29, x30, undef, undef, undef, undef, undef, undef, undef, undef, undef⟩, ⟨hh, r0, r1, r2, r3, r4, r5, r6, none⟩, rfl, rfl, Lib.hid ⟨N0, nofun, N1, P1_0, N2, P2_0, N3, P3_0, N4, P4_0, N5, P5_0, N6, P6_0, nofun, fun _ => hSr⟩⟩
    refine StepsU.cons ?_ ?_
    · intro Q E0 listed a w' hI hM hk haft K hK
      obtain ⟨⟨b0, b1, b2, b3, b4, b5, b6, b7, b8, b9, b10, b11, b12, b13, b14, b15, b16, b17, b18, b19, b20, b21, b22, b23, b24, b25, b26, b27, b28_, b29_, b30_, b31_⟩, ⟨x12, x19, x20, x21, x28, x29, x30, xx7_, xx8_, xx9_, xx10_, xx11_, xx12_, xx13_, xx14_, xx15_⟩, ⟨hh, r0, r1, r2, r3, r4, r5, r6, r7⟩, hl, ha, HF⟩ := hI
      dsimp only at hl ha HF
      subst hl; subst ha
      obtain ⟨N0, P0_0, N1, P1_0, N2, P2_0, N3, P3_0, N4, P4_0, N5, P5_0, N6, P6_0, Z, HS⟩ := HF.out
      clear HF
      have hk' : b6 = false := hk
      subst hk'
      clear hk
      obtain rfl : b7 = false := by cases b7 with | false => rfl | true => exact absurd (hM 7 6 rfl rfl) Bool.false_ne_true
      obtain rfl : b26 = false := by cases b26 with | false => rfl | true => exact absurd (hM 26 7 rfl rfl) Bool.false_ne_true
      obtain rfl : b27 = false := by cases b27 with | false => rfl | true => exact absurd (hM 27 6 rfl rfl) Bool.false_ne_true
      clear haft
      have hSr := HS rfl
      have hBl := hSr.bel
      obtain ⟨⟨q0, q1, q2, q3⟩, ⟨p0, p1, p2, p3⟩⟩ := HK.out w' hBl
      go_simp
      exact hK _ _ ⟨⟨b0, b1, b2, b3, b4, b5, true, false, b8, b9, b10, b11, b12, b13, b14, b15, b16, b17, b18, b19, b20, b21, b22, b23, b24, b25, false, false, false, false, false, false⟩, ⟨x12, x19, x20, x21, x28, x29, x30, undef, undef, undef, undef, undef, undef, undef, undef, undef⟩, ⟨hh, r0, r1, r2, r3, r4, r5, r6, none⟩, rfl, rfl, Lib.hid ⟨N0, nofun, N1, P1_0, N2, P2_0, N3, P3_0, N4, P4_0, N5, P5_0, N6, P6_0, nofun, fun _ => hSr⟩⟩
    refine StepsU.cons ?_ ?_
    · intro Q E0 listed a w' hI hM hk haft K hK
      obtain ⟨⟨b0, b1, b2, b3, b4, b5, b6, b7, b8, b9, b10, b11, b12, b13, b14, b15, b16, b17, b18, b19, b20, b21, b22, b23, b24, b25, b26, b27, b28_, b29_, b30_, b31_⟩, ⟨x12, x19, x20, x21, x28, x29, x30, xx7_, xx8_, xx9_, xx10_, xx11_, xx12_, xx13_, xx14_, xx15_⟩, ⟨hh, r0, r1, r2, r3, r4, r5, r6, r7⟩, hl, ha, HF⟩ := hI
      dsimp only at hl ha HF
      subst hl; subst ha
      obtain ⟨N0, P0_0, N1, P1_0, N2, P2_0, N3, P3_0, N4, P4_0, N5, P5_0, N6, P6_0, Z, HS⟩ := HF.out
      clear HF
      have hk' : b7 = false := hk
      subst hk'
      clear hk
      obtain rfl : b26 = false := by cases b26 with | false => rfl | true => exact absurd (hM 26 7 rfl rfl) Bool.false_ne_true
      obtain rfl : b27 = false := by cases b27 with | false => rfl | true => exact absurd (hM 27 7 rfl rfl) Bool.false_ne_true
      obtain rfl : b5 = true := haft ⟨5, .data⟩ (by simp) rfl
      obtain rfl : b6 = true := haft ⟨6, .data⟩ (by simp) rfl
      clear haft
      have hSr := HS rfl
      have hBl := hSr.bel
      obtain ⟨⟨q0, q1, q2, q3⟩, ⟨p0, p1, p2, p3⟩⟩ := HK.out w' hBl
      obtain rfl := N0 rfl
      go_simp
      go_at_call 202
      refine (shiftedMoves_c _ _ _ _ _ _ A B _ (HA.out.stay (kpB hBl)) (HB.out.stay (kpB hBl)) HOA.out HOB.out).mono ?_
      rintro e w1 ⟨vv, rfl, hbc, hoc⟩
      replace hoc := hoc.out
      rw [HSM.out] at hoc
      obtain ⟨aa, cc, rfl, _⟩ := Own3.shape hoc
      exact hK _ _ ⟨⟨b0, b1, b2, b3, b4, true, true, true, b8, b9, b10, b11, b12, b13, b14, b15, b16, b17, b18, b19, b20, b21, b22, b23, b24, b25, false, false, false, false, false, false⟩, ⟨.slice aa sm.length cc, x19, x20, x21, x28, x29, x30, undef, undef, undef, undef, undef, undef, undef, undef, undef⟩, ⟨hh, some ⟨40, 3, .slice aa sm.length cc, sm.length, cells3 sm⟩, r1, r2, r3, r4, r5, r6, none⟩, rfl, rfl, Lib.hid ⟨nofun, fun _ => ⟨aa, cc, rfl, rfl⟩, N1, P1_0, N2, P2_0, N3, P3_0, N4, P4_0, N5, P5_0, N6, P6_0, nofun, fun _ => Sr.call [] [r1, r2, r3, r4, r5, r6] ⟨40, 3, .slice aa sm.length cc, sm.length, cells3 sm⟩ hSr hbc hoc⟩⟩
    refine StepsU.cons ?_ ?_
    · intro Q E0 listed a w' hI hM hk haft K hK
      obtain ⟨⟨b0, b1, b2, b3, b4, b5, b6, b7, b8, b9, b10, b11, b12, b13, b14, b15, b16, b17, b18, b19, b20, b21, b22, b23, b24, b25, b26, b27, b28_, b29_, b30_, b31_⟩, ⟨x12, x19, x20, x21, x28, x29, x30, xx7_, xx8_, xx9_, xx10_, xx11_, xx12_, xx13_, xx14_, xx15_⟩, ⟨hh, r0, r1, r2, r3, r4, r5, r6, r7⟩, hl, ha, HF⟩ := hI
      dsimp only at hl ha HF
      subst hl; subst ha
      obtain ⟨N0, P0_0, N1, P1_0, N2, P2_0, N3, P3_0, N4, P4_0, N5, P5_0, N6, P6_0, Z, HS⟩ := HF.out
      clear HF
      have hk' : b8 = false := hk
      subst hk'
      clear hk
      obtain rfl : b9 = false := by cases b9 with | false => rfl | true => exact absurd (hM 9 8 rfl rfl) Bool.false_ne_true
      obtain rfl : b15 = false := by cases b15 with | false => rfl | true => exact absurd (hM 15 9 rfl rfl) Bool.false_ne_true
      obtain rfl : b16 = false := by cases b16 with | false => rfl | true => exact absurd (hM 16 15 rfl rfl) Bool.false_ne_true
      obtain rfl : b26 = false := by cases b26 with | false => rfl | true => exact absurd (hM 26 16 rfl rfl) Bool.false_ne_true
      obtain rfl : b27 = false := by cases b27 with | false => rfl | true => exact absurd (hM 27 8 rfl rfl) Bool.false_ne_true
      clear haft
      have hSr := HS rfl
      have hBl := hSr.bel
      obtain ⟨⟨q0, q1, q2, q3⟩, ⟨p0, p1, p2, p3⟩⟩ := HK.out w' hBl
      go_simp
      exact hK _ _ ⟨⟨b0, b1, b2, b3, b4, b5, b6, b7, true, false, b10, b11, b12, b13, b14, false, false, b17, b18, b19, b20, b21, b22, b23, b24, b25, false, false, false, false, false, false⟩, ⟨x12, x19, x20, x21, x28, x29, x30, undef, undef, undef, undef, undef, undef, undef, undef, undef⟩, ⟨hh, r0, r1, r2, r3, r4, r5, r6, none⟩, rfl, rfl, Lib.hid ⟨N0, P0_0, N1, P1_0, N2, nofun, N3, nofun, N4, P4_0, N5, P5_0, N6, P6_0, nofun, fun _ => hSr⟩⟩
    refine StepsU.cons ?_ ?_
    · intro Q E0 listed a w' hI hM hk haft K hK
      obtain ⟨⟨b0, b1, b2, b3, b4, b5, b6, b7, b8, b9, b10, b11, b12, b13, b14, b15, b16, b17, b18, b19, b20, b21, b22, b23, b24, b25, b26, b27, b28_, b29_, b30_, b31_⟩, ⟨x12, x19, x20, x21, x28, x29, x30, xx7_, xx8_, xx9_, xx10_, xx11_, xx12_, xx13_, xx14_, xx15_⟩, ⟨hh, r0, r1, r2, r3, r4, r5, r6, r7⟩, hl, ha, HF⟩ := hI
      dsimp only at hl ha HF
      subst hl; subst ha
      obtain ⟨N0, P0_0, N1, P1_0, N2, P2_0, N3, P3_0, N4, P4_0, N5, P5_0, N6, P6_0, Z, HS⟩ := HF.out
      clear HF
      have hk' : b9 = false := hk
      subst hk'
      clear hk
      obtain rfl : b15 = false := by cases b15 with | false => rfl | true => exact absurd (hM 15 9 rfl rfl) Bool.false_ne_true
      obtain rfl : b16 = false := by cases b16 with | false => rfl | true => exact absurd (hM 16 15 rfl rfl) Bool.false_ne_true
      obtain rfl : b26 = false := by cases b26 with | false => rfl | true => exact absurd (hM 26 16 rfl rfl) Bool.false_ne_true
      obtain rfl : b27 = false := by cases b27 with | false => rfl | true => exact absurd (hM 27 9 rfl rfl) Bool.false_ne_true
      obtain rfl : b8 = true := haft ⟨8, .data⟩ (by simp) rfl
      clear haft
      have hSr := HS rfl
      have hBl := hSr.bel
      obtain ⟨⟨q0, q1, q2, q3⟩, ⟨p0, p1, p2, p3⟩⟩ := HK.out w' hBl
      go_simp
      exact hK _ _ ⟨⟨b0, b1, b2, b3, b4, b5, b6, b7, true, true, b10, b11, b12, b13, b14, false, false, b17, b18, b19, b20, b21, b22, b23, b24, b25, false, false, false, false, false, false⟩, ⟨x12, x19, x20, x21, x28, x29, x30, undef, undef, undef, undef, undef, undef, undef, undef, undef⟩, ⟨hh, r0, r1, r2, r3, r4, r5, r6, none⟩, rfl, rfl, Lib.hid ⟨N0, P0_0, N1, P1_0, N2, nofun, N3, nofun, N4, P4_0, N5, P5_0, N6, P6_0, nofun, fun _ => hSr⟩⟩
    refine StepsU.cons ?_ ?_
    · intro Q E0 listed a w' hI hM hk haft K hK
      obtain ⟨⟨b0, b1, b2, b3, b4, b5, b6, b7, b8, b9, b10, b11, b12, b13, b14, b15, b16, b17, b18, b19, b20, b21, b22, b23, b24, b25, b26, b27, b28_, b29_, b30_, b31_⟩, ⟨x12, x19, x20, x21, x28, x29, x30, xx7_, xx8_, xx9_, xx10_, xx11_, xx12_, xx13_, xx14_, xx15_⟩, ⟨hh, r0, r1, r2, r3, r4, r5, r6, r7⟩, hl, ha, HF⟩ := hI
      dsimp only at hl ha HF
      subst hl; subst ha
      obtain ⟨N0, P0_0, N1, P1_0, N2, P2_0, N3, P3_0, N4, P4_0, N5, P5_0, N6, P6_0, Z, HS⟩ := HF.out
      clear HF
      have hk' : b10 = false := hk
      subst hk'
      clear hk
      obtain rfl : b11 = false := by cases b11 with | false => rfl | true => exact absurd (hM 11 10 rfl rfl) Bool.false_ne_true
      obtain rfl : b14 = false := by cases b14 with | false => rfl | true => exact absurd (hM 14 11 rfl rfl) Bool.false_ne_true
      obtain rfl : b15 = false := by cases b15 with | false => rfl | true => exact absurd (hM 15 14 rfl rfl) Bool.false_ne_true
      obtain rfl : b16 = false := by cases b16 with | false => rfl | true => exact absurd (hM 16 15 rfl rfl) Bool.false_ne_true
      obtain rfl : b26 = false := by cases b26 with | false => rfl | true => exact absurd (hM 26 16 rfl rfl) Bool.false_ne_true
      obtain rfl : b27 = false := by cases b27 with | false => rfl | true => exact absurd (hM 27 10 rfl rfl) Bool.false_ne_true
      clear haft
      have hSr := HS rfl
      have hBl := hSr.bel
      obtain ⟨⟨q0, q1, q2, q3⟩, ⟨p0, p1, p2, p3⟩⟩ := HK.out w' hBl
      go_simp
      exact hK _ _ ⟨⟨b0, b1, b2, b3, b4, b5, b6, b7, b8, b9, true, false, b12, b13, false, false, false, b17, b18, b19, b20, b21, b22, b23, b24, b25, false, false, false, false, false, false⟩, ⟨x12, x19, x20, x21, x28, x29, x30, undef, undef, undef, undef, undef, undef, undef, undef, undef⟩, ⟨hh, r0, r1, r2, r3, r4, r5, r6, none⟩, rfl, rfl, Lib.hid ⟨N0, P0_0, N1, nofun, N2, nofun, N3, nofun, N4, P4_0, N5, P5_0, N6, P6_0, nofun, fun _ => hSr⟩⟩
    refine StepsU.cons ?_ ?_
    · intro Q E0 listed a w' hI hM hk haft K hK
      obtain ⟨⟨b0, b1, b2, b3, b4, b5, b6, b7, b8, b9, b10, b11, b12, b13, b14, b15, b16, b17, b18, b19, b20, b21, b22, b23, b24, b25, b26, b27, b28_, b29_, b30_, b31_⟩, ⟨x12, x19, x20, x21, x28, x29, x30, xx7_, xx8_, xx9_, xx10_, xx11_, xx12_, xx13_, xx14_, xx15_⟩, ⟨hh, r0, r1, r2, r3, r4, r5, r6, r7⟩, hl, ha, HF⟩ := hI
      dsimp only at hl ha HF
      subst hl; subst ha
      obtain ⟨N0, P0_0, N1, P1_0, N2, P2_0, N3, P3_0, N4, P4_0, N5, P5_0, N6, P6_0, Z, HS⟩ := HF.out
      clear HF
      have hk' : b11 = false := hk
      subst hk'
      clear hk
      obtain rfl : b14 = false := by cases b14 with | false => rfl | true => exact absurd (hM 14 11 rfl rfl) Bool.false_ne_true
      obtain rfl : b15 = false := by cases b15 with | false => rfl | true => exact absurd (hM 15 14 rfl rfl) Bool.false_ne_true
      obtain rfl : b16 = false := by cases b16 with | false => rfl | true => exact absurd (hM 16 15 rfl rfl) Bool.false_ne_true
      obtain rfl : b26 = false := by cases b26 with | false => rfl | true => exact absurd (hM 26 16 rfl rfl) Bool.false_ne_true
      obtain rfl : b27 = false := by cases b27 with | false => rfl | true => exact absurd (hM 27 11 rfl rfl) Bool.false_ne_true
      obtain rfl : b10 = true := haft ⟨10, .data⟩ (by simp) rfl
      clear haft
      have hSr := HS rfl
      have hBl := hSr.bel
      obtain ⟨⟨q0, q1, q2, q3⟩, ⟨p0, p1, p2, p3⟩⟩ := HK.out w' hBl
      go_simp
      exact hK _ _ ⟨⟨b0, b1, b2, b3, b4, b5, b6, b7, b8, b9, true, true, b12, b13, false, false, false, b17, b18, b19, b20, b21, b22, b23, b24, b25, false, false, false, false, false, false⟩, ⟨x12, x19, x20, x21, x28, x29, x30, undef, undef, undef, undef, undef, undef, undef, undef, undef⟩, ⟨hh, r0, r1, r2, r3, r4, r5, r6, none⟩, rfl, rfl, Lib.hid ⟨N0, P0_0, N1, nofun, N2, nofun, N3, nofun, N4, P4_0, N5, P5_0, N6, P6_0, nofun, fun _ => hSr⟩⟩
    refine StepsU.cons ?_ ?_
    · intro Q E0 listed a w' hI hM hk haft K hK
      obtain ⟨⟨b0, b1, b2, b3, b4, b5, b6, b7, b8, b9, b10, b11, b12, b13, b14, b15, b16, b17, b18, b19, b20, b21, b22, b23, b24, b25, b26, b27, b28_, b29_, b30_, b31_⟩, ⟨x12, x19, x20, x21, x28, x29, x30, xx7_, xx8_, xx9_, xx10_, xx11_, xx12_, xx13_, xx14_, xx15_⟩, ⟨hh, r0, r1, r2, r3, r4, r5, r6, r7⟩, hl, ha, HF⟩ := hI
      dsimp only at hl ha HF
      subst hl; subst ha
      obtain ⟨N0, P0_0, N1, P1_0, N2, P2_0, N3, P3_0, N4, P4_0, N5, P5_0, N6, P6_0, Z, HS⟩ := HF.out
      clear HF
      have hk' : b12 = false := hk
      subst hk'
      clear hk
      obtain rfl : b13 = false := by cases b13 with | false => rfl | true => exact absurd (hM 13 12 rfl rfl) Bool.false_ne_true
      obtain rfl : b14 = false := by cases b14 with | false => rfl | true => exact absurd (hM 14 13 rfl rfl) Bool.false_ne_true
      obtain rfl : b15 = false := by cases b15 with | false => rfl | true => exact absurd (hM 15 14 rfl rfl) Bool.false_ne_true
      obtain rfl : b16 = false := by cases b16 with | false => rfl | true => exact absurd (hM 16 15 rfl rfl) Bool.false_ne_true
      obtain rfl : b26 = false := by cases b26 with | false => rfl | true => exact absurd (hM 26 16 rfl rfl) Bool.false_ne_true
      obtain rfl : b27 = false := by cases b27 with | false => rfl | true => exact absurd (hM 27 12 rfl rfl) Bool.false_ne_true
      clear haft
      have hSr := HS rfl
      have hBl := hSr.bel
      obtain ⟨⟨q0, q1, q2, q3⟩, ⟨p0, p1, p2, p3⟩⟩ := HK.out w' hBl
      go_simp
      exact hK _ _ ⟨⟨b0, b1, b2, b3, b4, b5, b6, b7, b8, b9, b10, b11, true, false, false, false, false, b17, b18, b19, b20, b21, b22, b23, b24, b25, false, false, false, false, false, false⟩, ⟨x12, x19, x20, x21, x28, x29, x30, undef, undef, undef, undef, undef, undef, undef, undef, undef⟩, ⟨hh, r0, r1, r2, r3, r4, r5, r6, none⟩, rfl, rfl, Lib.hid ⟨N0, P0_0, N1, nofun, N2, nofun, N3, nofun, N4, P4_0, N5, P5_0, N6, P6_0, nofun, fun _ => hSr⟩⟩
    refine StepsU.cons ?_ ?_
    · intro Q E0 listed a w' hI hM hk haft K hK
      obtain ⟨⟨b0, b1, b2, b3, b4, b5, b6, b7, b8, b9, b10, b11, b12, b13, b14, b15, b16, b17, b18, b19, b20, b21, b22, b23, b24, b25, b26, b27, b28_, b29_, b30_, b31_⟩, ⟨x12, x19, x20, x21, x28, x29, x30, xx7_, xx8_, xx9_, xx10_, xx11_, xx12_, xx13_, xx14_, xx15_⟩, ⟨hh, r0, r1, r2, r3, r4, r5, r6, r7⟩, hl, ha, HF⟩ := hI
      dsimp only at hl ha HF
      subst hl; subst ha
      obtain ⟨N0, P0_0, N1, P1_0, N2, P2_0, N3, P3_0, N4, P4_0, N5, P5_0, N6, P6_0, Z, HS⟩ := HF.out
      clear HF
      have hk' : b13 = false := hk
      subst hk'
      clear hk
      obtain rfl : b14 = false := by cases b14 with | false => rfl | true => exact absurd (hM 14 13 rfl rfl) Bool.false_ne_true
      obtain rfl : b15 = false := by cases b15 with | false => rfl | true => exact absurd (hM 15 14 rfl rfl) Bool.false_ne_true
      obtain rfl : b16 = false := by cases b16 with | false => rfl | true => exact absurd (hM 16 15 rfl rfl) Bool.false_ne_true
      obtain rfl : b26 = false := by cases b26 with | false => rfl | true => exact absurd (hM 26 16 rfl rfl) Bool.false_ne_true
      obtain rfl : b27 = false := by cases b27 with | false => rfl | true => exact absurd (hM 27 13 rfl rfl) Bool.false_ne_true
      obtain rfl : b12 = true := haft ⟨12, .data⟩ (by simp) rfl
      clear haft
      have hSr := HS rfl
      have hBl := hSr.bel
      obtain ⟨⟨q0, q1, q2, q3⟩, ⟨p0, p1, p2, p3⟩⟩ := HK.out w' hBl
      go_simp
      exact hK _ _ ⟨⟨b0, b1, b2, b3, b4, b5, b6, b7, b8, b9, b10, b11, true, true, false, false, false, b17, b18, b19, b20, b21, b22, b23, b24, b25, false, false, false, false, false, false⟩, ⟨x12, x19, x20, x21, x28, x29, x30, undef, undef, undef, undef, undef, undef, undef, undef, undef⟩, ⟨hh, r0, r1, r2, r3, r4, r5, r6, none⟩, rfl, rfl, Lib.hid ⟨N0, P0_0, N1, nofun, N2, nofun, N3, nofun, N4, P4_0, N5, P5_0, N6, P6_0, nofun, fun _ => hSr⟩⟩
    refine StepsU.cons ?_ ?_
    · intro Q E0 listed a w' hI hM hk haft K hK
      obtain ⟨⟨b0, b1, b2, b3, b4, b5, b6, b7, b8, b9, b10, b11, b12, b13, b14, b15, b16, b17, b18, b19, b20, b21, b22, b23, b24, b25, b26, b27, b28_, b29_, b30_, b31_⟩, ⟨x12, x19, x20, x21, x28, x29, x30, xx7_, xx8_, xx9_, xx10_, xx11_, xx12_, xx13_, xx14_, xx15_⟩, ⟨hh, r0, r1, r2, r3, r4, r5, r6, r7⟩, hl, ha, HF⟩ := hI
      dsimp only at hl ha HF
      subst hl; subst ha
      obtain ⟨N0, P0_0, N1, P1_0, N2, P2_0, N3, P3_0, N4, P4_0, N5, P5_0, N6, P6_0, Z, HS⟩ := HF.out
      clear HF
      have hk' : b14 = false := hk
      subst hk'
      clear hk
      obtain rfl : b15 = false := by cases b15 with | false => rfl | true => exact absurd (hM 15 14 rfl rfl) Bool.false_ne_true
      obtain rfl : b16 = false := by cases b16 with | false => rfl | true => exact absurd (hM 16 15 rfl rfl) Bool.false_ne_true
      obtain rfl : b26 = false := by cases b26 with | false => rfl | true => exact absurd (hM 26 16 rfl rfl) Bool.false_ne_true
      obtain rfl : b27 = false := by cases b27 with | false => rfl | true => exact absurd (hM 27 14 rfl rfl) Bool.false_ne_true
      obtain rfl : b11 = true := haft ⟨11, .data⟩ (by simp) rfl
      obtain rfl : b13 = true := haft ⟨13, .data⟩ (by simp) rfl
      obtain rfl : b10 = true := hM 11 10 rfl rfl
      obtain rfl : b12 = true := hM 13 12 rfl rfl
      clear haft
      have hSr := HS rfl
      have hBl := hSr.bel
      obtain ⟨⟨q0, q1, q2, q3⟩, ⟨p0, p1, p2, p3⟩⟩ := HK.out w' hBl
      obtain rfl := N1 rfl
      go_simp
      go_at_call 203
      refine (shifted_c _ B.firsts A.states _ ((HB.out.2.1).stay (kpB hBl)) (HRB.out.1) (by have := hsA.out; omega) (by have := HLB.out; omega)).mono ?_
      rintro e w1 ⟨vv, rfl, hbc, hoc⟩
      replace hoc := hoc.out
      rw [HBF.out] at hoc
      obtain ⟨aa, cc, rfl, _⟩ := OwnI.shape hoc
      exact hK _ _ ⟨⟨b0, b1, b2, b3, b4, b5, b6, b7, b8, b9, true, true, true, true, true, false, false, b17, b18, b19, b20, b21, b22, b23, b24, b25, false, false, false, false, false, false⟩, ⟨x12, .slice aa bf.length cc, x20, x21, x28, x29, x30, undef, undef, undef, undef, undef, undef, undef, undef, undef⟩, ⟨hh, r0, some ⟨3, 1, .slice aa bf.length cc, bf.length, bf.map (.int .i64 ·)⟩, r2, r3, r4, r5, r6, none⟩, rfl, rfl, Lib.hid ⟨N0, P0_0, nofun, fun _ => ⟨aa, cc, rfl, rfl⟩, N2, nofun, N3, nofun, N4, P4_0, N5, P5_0, N6, P6_0, nofun, fun _ => Sr.call [r0] [r2, r3, r4, r5, r6] ⟨3, 1, .slice aa bf.length cc, bf.length, bf.map (.int .i64 ·)⟩ hSr hbc hoc⟩⟩
    refine StepsU.cons ?_ ?_
    · intro Q E0 listed a w' hI hM hk haft K hK
      obtain ⟨⟨b0, b1, b2, b3, b4, b5, b6, b7, b8, b9, b10, b11, b12, b13, b14, b15, b16, b17, b18, b19, b20, b21, b22, b23, b24, b25, b26, b27, b28_, b29_, b30_, b31_⟩, ⟨x12, x19, x20, x21, x28, x29, x30, xx7_, xx8_, xx9_, xx10_, xx11_, xx12_, xx13_, xx14_, xx15_⟩, ⟨hh, r0, r1, r2, r3, r4, r5, r6, r7⟩, hl, ha, HF⟩ := hI
      dsimp only at hl ha HF
      subst hl; subst ha
      obtain ⟨N0, P0_0, N1, P1_0, N2, P2_0, N3, P3_0, N4, P4_0, N5, P5_0, N6, P6_0, Z, HS⟩ := HF.out
      clear HF
      have hk' : b15 = false := hk
      subst hk'
      clear hk
      obtain rfl : b16 = false := by cases b16 with | false => rfl | true => exact absurd (hM 16 15 rfl rfl) Bool.false_ne_true
      obtain rfl : b26 = false := by cases b26 with | false => rfl | true => exact absurd (hM 26 16 rfl rfl) Bool.false_ne_true
      obtain rfl : b27 = false := by cases b27 with | false => rfl | true => exact absurd (hM 27 15 rfl rfl) Bool.false_ne_true
      obtain rfl : b9 = true := haft ⟨9, .data⟩ (by simp) rfl
      obtain rfl : b14 = true := haft ⟨14, .data⟩ (by simp) rfl
      obtain rfl : b8 = true := hM 9 8 rfl rfl
      obtain rfl : b11 = true := hM 14 11 rfl rfl
      obtain rfl : b13 = true := hM 14 13 rfl rfl
      obtain rfl : b10 = true := hM 11 10 rfl rfl
      obtain rfl : b12 = true := hM 13 12 rfl rfl
      clear haft
      obtain ⟨g14, c14, rfl, rfl⟩ := P1_0 rfl
      have hSr := HS rfl
      have hBl := hSr.bel
      obtain ⟨⟨q0, q1, q2, q3⟩, ⟨p0, p1, p2, p3⟩⟩ := HK.out w' hBl
      obtain rfl := N2 rfl
      go_simp
      exact hK _ _ ⟨⟨b0, b1, b2, b3, b4, b5, b6, b7, true, true, true, true, true, true, true, true, false, b17, b18, b19, b20, b21, b22, b23, b24, b25, false, false, false, false, false, false⟩, ⟨x12, _, .slice (some ⟨w'.heap.size, 0, none⟩) 2 2, x21, x28, x29, x30, undef, undef, undef, undef, undef, undef, undef, undef, undef⟩, ⟨hh, r0, _, some ⟨34, 1, .slice (some ⟨w'.heap.size, 0, none⟩) 2 2, 2, _⟩, r3, r4, r5, r6, none⟩, rfl, rfl, Lib.hid ⟨N0, P0_0, N1, fun _ => ⟨_, _, rfl, rfl⟩, nofun, fun _ => ⟨w'.heap.size, 2, rfl, rfl⟩, N3, nofun, N4, P4_0, N5, P5_0, N6, P6_0, nofun, fun _ => Sr.call [r0, _] [r3, r4, r5, r6] ⟨34, 1, .slice (some ⟨w'.heap.size, 0, none⟩) 2 2, 2, _⟩ hSr ((Below.refl _ _).alloc (Nat.le_refl _) _) (ownLit (n := 2) _ (Nat.le_refl _) (by omega) rfl)⟩⟩
    refine StepsU.cons ?_ ?_
    · intro Q E0 listed a w' hI hM hk haft K hK
      obtain ⟨⟨b0, b1, b2, b3, b4, b5, b6, b7, b8, b9, b10, b11, b12, b13, b14, b15, b16, b17, b18, b19, b20, b21, b22, b23, b24, b25, b26, b27, b28_, b29_, b30_, b31_⟩, ⟨x12, x19, x20, x21, x28, x29, x30, xx7_, xx8_, xx9_, xx10_, xx11_, xx12_, xx13_, xx14_, xx15_⟩, ⟨hh, r0, r1, r2, r3, r4, r5, r6, r7⟩, hl, ha, HF⟩ := hI
      dsimp only at hl ha HF
      subst hl; subst ha
      obtain ⟨N0, P0_0, N1, P1_0, N2, P2_0, N3, P3_0, N4, P4_0, N5, P5_0, N6, P6_0, Z, HS⟩ := HF.out
      clear HF
      have hk' : b16 = false := hk
      subst hk'
      clear hk
      obtain rfl : b26 = false := by cases b26 with | false => rfl | true => exact absurd (hM 26 16 rfl rfl) Bool.false_ne_true
      obtain rfl : b27 = false := by cases b27 with | false => rfl | true => exact absurd (hM 27 16 rfl rfl) Bool.false_ne_true
      obtain rfl : b15 = true := haft ⟨15, .data⟩ (by simp) rfl
      obtain rfl : b9 = true := hM 15 9 rfl rfl
      obtain rfl : b14 = true := hM 15 14 rfl rfl
      obtain rfl : b8 = true := hM 9 8 rfl rfl
      obtain rfl : b11 = true := hM 14 11 rfl rfl
      obtain rfl : b13 = true := hM 14 13 rfl rfl
      obtain rfl : b10 = true := hM 11 10 rfl rfl
      obtain rfl : b12 = true := hM 13 12 rfl rfl
      clear haft
      obtain ⟨g15, c15, rfl, rfl⟩ := P2_0 rfl
      obtain ⟨g14, c14, rfl, rfl⟩ := P1_0 rfl
      have hSr := HS rfl
      have hBl := hSr.bel
      obtain ⟨⟨q0, q1, q2, q3⟩, ⟨p0, p1, p2, p3⟩⟩ := HK.out w' hBl
      obtain rfl := N3 rfl
      go_simp
      go_at_call 159
      refine (concatTwo_c (S := fun _ => True) _ _ A.firsts bf _ (ownBase (hSr.at 2 rfl) (Nat.zero_le _)) (((HA.out.2.1).stay (kpB hBl)).mono (fun _ _ => trivial)) ((ownFl (hSr.at 1 rfl)).fl.mono (fun _ _ => trivial)) (by have := HLA.out; have := HSL.out; omega)).mono ?_
      rintro e w1 ⟨vv, rfl, hbc, hoc⟩
      replace hoc := hoc.out
      rw [HFB.out] at hoc
      obtain ⟨aa, cc, rfl, _⟩ := OwnI.shape hoc
      exact hK _ _ ⟨⟨b0, b1, b2, b3, b4, b5, b6, b7, true, true, true, true, true, true, true, true, true, b17, b18, b19, b20, b21, b22, b23, b24, b25, false, false, false, false, false, false⟩, ⟨x12, _, _, .slice aa fb.length cc, x28, x29, x30, undef, undef, undef, undef, undef, undef, undef, undef, undef⟩, ⟨hh, r0, _, _, some ⟨3, 1, .slice aa fb.length cc, fb.length, fb.map (.int .i64 ·)⟩, r4, r5, r6, none⟩, rfl, rfl, Lib.hid ⟨N0, P0_0, N1, fun _ => ⟨_, _, rfl, rfl⟩, N2, fun _ => ⟨_, _, rfl, rfl⟩, nofun, fun _ => ⟨aa, cc, rfl, rfl⟩, N4, P4_0, N5, P5_0, N6, P6_0, nofun, fun _ => Sr.call [r0, _, _] [r4, r5, r6] ⟨3, 1, .slice aa fb.length cc, fb.length, fb.map (.int .i64 ·)⟩ hSr hbc hoc⟩⟩
    refine StepsU.cons ?_ ?_
    · intro Q E0 listed a w' hI hM hk haft K hK
      obtain ⟨⟨b0, b1, b2, b3, b4, b5, b6, b7, b8, b9, b10, b11, b12, b13, b14, b15, b16, b17, b18, b19, b20, b21, b22, b23, b24, b25, b26, b27, b28_, b29_, b30_, b31_⟩, ⟨x12, x19, x20, x21, x28, x29, x30, xx7_, xx8_, xx9_, xx10_, xx11_, xx12_, xx13_, xx14_, xx15_⟩, ⟨hh, r0, r1, r2, r3, r4, r5, r6, r7⟩, hl, ha, HF⟩ := hI
      dsimp only at hl ha HF
      subst hl; subst ha
      obtain ⟨N0, P0_0, N1, P1_0, N2, P2_0, N3, P3_0, N4, P4_0, N5, P5_0, N6, P6_0, Z, HS⟩ := HF.out
      clear HF
      have hk' : b17 = false := hk
      subst hk'
      clear hk
      obtain rfl : b18 = false := by cases b18 with | false => rfl | true => exact absurd (hM 18 17 rfl rfl) Bool.false_ne_true
      obtain rfl : b24 = false := by cases b24 with | false => rfl | true => exact absurd (hM 24 18 rfl rfl) Bool.false_ne_true
      obtain rfl : b25 = false := by cases b25 with | false => rfl | true => exact absurd (hM 25 24 rfl rfl) Bool.false_ne_true
      obtain rfl : b26 = false := by cases b26 with | false => rfl | true => exact absurd (hM 26 25 rfl rfl) Bool.false_ne_true
      obtain rfl : b27 = false := by cases b27 with | false => rfl | true => exact absurd (hM 27 17 rfl rfl) Bool.false_ne_true
      clear haft
      have hSr := HS rfl
      have hBl := hSr.bel
      obtain ⟨⟨q0, q1, q2, q3⟩, ⟨p0, p1, p2, p3⟩⟩ := HK.out w' hBl
      go_simp
      exact hK _ _ ⟨⟨b0, b1, b2, b3, b4, b5, b6, b7, b8, b9, b10, b11, b12, b13, b14, b15, b16, true, false, b19, b20, b21, b22, b23, false, false, false, false, false, false, false, false⟩, ⟨x12, x19, x20, x21, x28, x29, x30, undef, undef, undef, undef, undef, undef, undef, undef, undef⟩, ⟨hh, r0, r1, r2, r3, r4, r5, r6, none⟩, rfl, rfl, Lib.hid ⟨N0, P0_0, N1, P1_0, N2, P2_0, N3, P3_0, N4, P4_0, N5, nofun, N6, nofun, nofun, fun _ => hSr⟩⟩
    refine StepsU.cons ?_ ?_
    · intro Q E0 listed a w' hI hM hk haft K hK
      obtain ⟨⟨b0, b1, b2, b3, b4, b5, b6, b7, b8, b9, b10, b11, b12, b13, b14, b15, b16, b17, b18, b19, b20, b21, b22, b23, b24, b25, b26, b27, b28_, b29_, b30_, b31_⟩, ⟨x12, x19, x20, x21, x28, x29, x30, xx7_, xx8_, xx9_, xx10_, xx11_, xx12_, xx13_, xx14_, xx15_⟩, ⟨hh, r0, r1, r2, r3, r4, r5, r6, r7⟩, hl, ha, HF⟩ := hI
      dsimp only at hl ha HF
      subst hl; subst ha
      obtain ⟨N0, P0_0, N1, P1_0, N2, P2_0, N3, P3_0, N4, P4_0, N5, P5_0, N6, P6_0, Z, HS⟩ := HF.out
      clear HF
      have hk' : b18 = false := hk
      subst hk'
      clear hk
      obtain rfl : b24 = false := by cases b24 with | false => rfl | true => exact absurd (hM 24 18 rfl rfl) Bool.false_ne_true
      obtain rfl : b25 = false := by cases b25 with | false => rfl | true => exact absurd (hM 25 24 rfl rfl) Bool.false_ne_true
      obtain rfl : b26 = false := by cases b26 with | false => rfl | true => exact absurd (hM 26 25 rfl rfl) Bool.false_ne_true
      obtain rfl : b27 = false := by cases b27 with | false => rfl | true => exact absurd (hM 27 18 rfl rfl) Bool.false_ne_true
      obtain rfl : b17 = true := haft ⟨17, .data⟩ (by simp) rfl
      clear haft
      have hSr := HS rfl
      have hBl := hSr.bel
      obtain ⟨⟨q0, q1, q2, q3⟩, ⟨p0, p1, p2, p3⟩⟩ := HK.out w' hBl
      go_simp
      exact hK _ _ ⟨⟨b0, b1, b2, b3, b4, b5, b6, b7, b8, b9, b10, b11, b12, b13, b14, b15, b16, true, true, b19, b20, b21, b22, b23, false, false, false, false, false, false, false, false⟩, ⟨x12, x19, x20, x21, x28, x29, x30, undef, undef, undef, undef, undef, undef, undef, undef, undef⟩, ⟨hh, r0, r1, r2, r3, r4, r5, r6, none⟩, rfl, rfl, Lib.hid ⟨N0, P0_0, N1, P1_0, N2, P2_0, N3, P3_0, N4, P4_0, N5, nofun, N6, nofun, nofun, fun _ => hSr⟩⟩
    refine StepsU.cons ?_ ?_
    · intro Q E0 listed a w' hI hM hk haft K hK
      obtain ⟨⟨b0, b1, b2, b3, b4, b5, b6, b7, b8, b9, b10, b11, b12, b13, b14, b15, b16, b17, b18, b19, b20, b21, b22, b23, b24, b25, b26, b27, b28_, b29_, b30_, b31_⟩, ⟨x12, x19, x20, x21, x28, x29, x30, xx7_, xx8_, xx9_, xx10_, xx11_, xx12_, xx13_, xx14_, xx15_⟩, ⟨hh, r0, r1, r2, r3, r4, r5, r6, r7⟩, hl, ha, HF⟩ := hI
      dsimp only at hl ha HF
      subst hl; subst ha
      obtain ⟨N0, P0_0, N1, P1_0, N2, P2_0, N3, P3_0, N4, P4_0, N5, P5_0, N6, P6_0, Z, HS⟩ := HF.out
      clear HF
      have hk' : b19 = false := hk
      subst hk'
      clear hk
      obtain rfl : b20 = false := by cases b20 with | false => rfl | true => exact absurd (hM 20 19 rfl rfl) Bool.false_ne_true
      obtain rfl : b23 = false := by cases b23 with | false => rfl | true => exact absurd (hM 23 20 rfl rfl) Bool.false_ne_true
      obtain rfl : b24 = false := by cases b24 with | false => rfl | true => exact absurd (hM 24 23 rfl rfl) Bool.false_ne_true
      obtain rfl : b25 = false := by cases b25 with | false => rfl | true => exact absurd (hM 25 24 rfl rfl) Bool.false_ne_true
      obtain rfl : b26 = false := by cases b26 with | false => rfl | true => exact absurd (hM 26 25 rfl rfl) Bool.false_ne_true
      obtain rfl : b27 = false := by cases b27 with | false => rfl | true => exact absurd (hM 27 19 rfl rfl) Bool.false_ne_true
      clear haft
      have hSr := HS rfl
      have hBl := hSr.bel
      obtain ⟨⟨q0, q1, q2, q3⟩, ⟨p0, p1, p2, p3⟩⟩ := HK.out w' hBl
      go_simp
      exact hK _ _ ⟨⟨b0, b1, b2, b3, b4, b5, b6, b7, b8, b9, b10, b11, b12, b13, b14, b15, b16, b17, b18, true, false, b21, b22, false, false, false, false, false, false, false, false, false⟩, ⟨x12, x19, x20, x21, x28, x29, x30, undef, undef, undef, undef, undef, undef, undef, undef, undef⟩, ⟨hh, r0, r1, r2, r3, r4, r5, r6, none⟩, rfl, rfl, Lib.hid ⟨N0, P0_0, N1, P1_0, N2, P2_0, N3, P3_0, N4, nofun, N5, nofun, N6, nofun, nofun, fun _ => hSr⟩⟩
    refine StepsU.cons ?_ ?_
    · intro Q E0 listed a w' hI hM hk haft K hK
      obtain ⟨⟨b0, b1, b2, b3, b4, b5, b6, b7, b8, b9, b10, b11, b12, b13, b14, b15, b16, b17, b18, b19, b20, b21, b22, b23, b24, b25, b26, b27, b28_, b29_, b30_, b31_⟩, ⟨x12, x19, x20, x21, x28, x29, x30, xx7_, xx8_, xx9_, xx10_, xx11_, xx12_, xx13_, xx14_, xx15_⟩, ⟨hh, r0, r1, r2, r3, r4, r5, r6, r7⟩, hl, ha, HF⟩ := hI
      dsimp only at hl ha HF
      subst hl; subst ha
      obtain ⟨N0, P0_0, N1, P1_0, N2, P2_0, N3, P3_0, N4, P4_0, N5, P5_0, N6, P6_0, Z, HS⟩ := HF.out
      clear HF
      have hk' : b20 = false := hk
      subst hk'
      clear hk
      obtain rfl : b23 = false := by cases b23 with | false => rfl | true => exact absurd (hM 23 20 rfl rfl) Bool.false_ne_true
      obtain rfl : b24 = false := by cases b24 with | false => rfl | true => exact absurd (hM 24 23 rfl rfl) Bool.false_ne_true
      obtain rfl : b25 = false := by cases b25 with | false => rfl | true => exact absurd (hM 25 24 rfl rfl) Bool.false_ne_true
      obtain rfl : b26 = false := by cases b26 with | false => rfl | true => exact absurd (hM 26 25 rfl rfl) Bool.false_ne_true
      obtain rfl : b27 = false := by cases b27 with | false => rfl | true => exact absurd (hM 27 20 rfl rfl) Bool.false_ne_true
      obtain rfl : b19 = true := haft ⟨19, .data⟩ (by simp) rfl
      clear haft
      have hSr := HS rfl
      have hBl := hSr.bel
      obtain ⟨⟨q0, q1, q2, q3⟩, ⟨p0, p1, p2, p3⟩⟩ := HK.out w' hBl
      go_simp
      exact hK _ _ ⟨⟨b0, b1, b2, b3, b4, b5, b6, b7, b8, b9, b10, b11, b12, b13, b14, b15, b16, b17, b18, true, true, b21, b22, false, false, false, false, false, false, false, false, false⟩, ⟨x12, x19, x20, x21, x28, x29, x30, undef, undef, undef, undef, undef, undef, undef, undef, undef⟩, ⟨hh, r0, r1, r2, r3, r4, r5, r6, none⟩, rfl, rfl, Lib.hid ⟨N0, P0_0, N1, P1_0, N2, P2_0, N3, P3_0, N4, nofun, N5, nofun, N6, nofun, nofun, fun _ => hSr⟩⟩
    refine StepsU.cons ?_ ?_
    · intro Q E0 listed a w' hI hM hk haft K hK
      obtain ⟨⟨b0, b1, b2, b3, b4, b5, b6, b7, b8, b9, b10, b11, b12, b13, b14, b15, b16, b17, b18, b19, b20, b21, b22, b23, b24, b25, b26, b27, b28_, b29_, b30_, b31_⟩, ⟨x12, x19, x20, x21, x28, x29, x30, xx7_, xx8_, xx9_, xx10_, xx11_, xx12_, xx13_, xx14_, xx15_⟩, ⟨hh, r0, r1, r2, r3, r4, r5, r6, r7⟩, hl, ha, HF⟩ := hI
      dsimp only at hl ha HF
      subst hl; subst ha
      obtain ⟨N0, P0_0, N1, P1_0, N2, P2_0, N3, P3_0, N4, P4_0, N5, P5_0, N6, P6_0, Z, HS⟩ := HF.out
      clear HF
      have hk' : b21 = false := hk
      subst hk'
      clear hk
      obtain rfl : b22 = false := by cases b22 with | false => rfl | true => exact absurd (hM 22 21 rfl rfl) Bool.false_ne_true
      obtain rfl : b23 = false := by cases b23 with | false => rfl | true => exact absurd (hM 23 22 rfl rfl) Bool.false_ne_true
      obtain rfl : b24 = false := by cases b24 with | false => rfl | true => exact absurd (hM 24 23 rfl rfl) Bool.false_ne_true
      obtain rfl : b25 = false := by cases b25 with | false => rfl | true => exact absurd (hM 25 24 rfl rfl) Bool.false_ne_true
      obtain rfl : b26 = false := by cases b26 with | false => rfl | true => exact absurd (hM 26 25 rfl rfl) Bool.false_ne_true
      obtain rfl : b27 = false := by cases b27 with | false => rfl | true => exact absurd (hM 27 21 rfl rfl) Bool.false_ne_true
      clear haft
      have hSr := HS rfl
      have hBl := hSr.bel
      obtain ⟨⟨q0, q1, q2, q3⟩, ⟨p0, p1, p2, p3⟩⟩ := HK.out w' hBl
      go_simp
      exact hK _ _ ⟨⟨b0, b1, b2, b3, b4, b5, b6, b7, b8, b9, b10, b11, b12, b13, b14, b15, b16, b17, b18, b19, b20, true, false, false, false, false, false, false, false, false, false, false⟩, ⟨x12, x19, x20, x21, x28, x29, x30, undef, undef, undef, undef, undef, undef, undef, undef, undef⟩, ⟨hh, r0, r1, r2, r3, r4, r5, r6, none⟩, rfl, rfl, Lib.hid ⟨N0, P0_0, N1, P1_0, N2, P2_0, N3, P3_0, N4, nofun, N5, nofun, N6, nofun, nofun, fun _ => hSr⟩⟩
    refine StepsU.cons ?_ ?_
    · intro Q E0 listed a w' hI hM hk haft K hK
      obtain ⟨⟨b0, b1, b2, b3, b4, b5, b6, b7, b8, b9, b10, b11, b12, b13, b14, b15, b16, b17, b18, b19, b20, b21, b22, b23, b24, b25, b26, b27, b28_, b29_, b30_, b31_⟩, ⟨x12, x19, x20, x21, x28, x29, x30, xx7_, xx8_, xx9_, xx10_, xx11_, xx12_, xx13_, xx14_, xx15_⟩, ⟨hh, r0, r1, r2, r3, r4, r5, r6, r7⟩, hl, ha, HF⟩ := hI
      dsimp only at hl ha HF
      subst hl; subst ha
      obtain ⟨N0, P0_0, N1, P1_0, N2, P2_0, N3, P3_0, N4, P4_0, N5, P5_0, N6, P6_0, Z, HS⟩ := HF.out
      clear HF
      have hk' : b22 = false := hk
      subst hk'
      clear hk
      obtain rfl : b23 = false := by cases b23 with | false => rfl | true => exact absurd (hM 23 22 rfl rfl) Bool.false_ne_true
      obtain rfl : b24 = false := by cases b24 with | false => rfl | true => exact absurd (hM 24 23 rfl rfl) Bool.false_ne_true
      obtain rfl : b25 = false := by cases b25 with | false => rfl | true => exact absurd (hM 25 24 rfl rfl) Bool.false_ne_true
      obtain rfl : b26 = false := by cases b26 with | false => rfl | true => exact absurd (hM 26 25 rfl rfl) Bool.false_ne_true
      obtain rfl : b27 = false := by cases b27 with | false => rfl | true => exact absurd (hM 27 22 rfl rfl) Bool.false_ne_true
      obtain rfl : b21 = true := haft ⟨21, .data⟩ (by simp) rfl
      clear haft
      have hSr := HS rfl
      have hBl := hSr.bel
      obtain ⟨⟨q0, q1, q2, q3⟩, ⟨p0, p1, p2, p3⟩⟩ := HK.out w' hBl
      go_simp
      exact hK _ _ ⟨⟨b0, b1, b2, b3, b4, b5, b6, b7, b8, b9, b10, b11, b12, b13, b14, b15, b16, b17, b18, b19, b20, true, true, false, false, false, false, false, false, false, false, false⟩, ⟨x12, x19, x20, x21, x28, x29, x30, undef, undef, undef, undef, undef, undef, undef, undef, undef⟩, ⟨hh, r0, r1, r2, r3, r4, r5, r6, none⟩, rfl, rfl, Lib.hid ⟨N0, P0_0, N1, P1_0, N2, P2_0, N3, P3_0, N4, nofun, N5, nofun, N6, nofun, nofun, fun _ => hSr⟩⟩
    refine StepsU.cons ?_ ?_
    · intro Q E0 listed a w' hI hM hk haft K hK
      obtain ⟨⟨b0, b1, b2, b3, b4, b5, b6, b7, b8, b9, b10, b11, b12, b13, b14, b15, b16, b17, b18, b19, b20, b21, b22, b23, b24, b25, b26, b27, b28_, b29_, b30_, b31_⟩, ⟨x12, x19, x20, x21, x28, x29, x30, xx7_, xx8_, xx9_, xx10_, xx11_, xx12_, xx13_, xx14_, xx15_⟩, ⟨hh, r0, r1, r2, r3, r4, r5, r6, r7⟩, hl, ha, HF⟩ := hI
      dsimp only at hl ha HF
      subst hl; subst ha
      obtain ⟨N0, P0_0, N1, P1_0, N2, P2_0, N3, P3_0, N4, P4_0, N5, P5_0, N6, P6_0, Z, HS⟩ := HF.out
      clear HF
      have hk' : b23 = false := hk
      subst hk'
      clear hk
      obtain rfl : b24 = false := by cases b24 with | false => rfl | true => exact absurd (hM 24 23 rfl rfl) Bool.false_ne_true
      obtain rfl : b25 = false := by cases b25 with | false => rfl | true => exact absurd (hM 25 24 rfl rfl) Bool.false_ne_true
      obtain rfl : b26 = false := by cases b26 with | false => rfl | true => exact absurd (hM 26 25 rfl rfl) Bool.false_ne_true
      obtain rfl : b27 = false := by cases b27 with | false => rfl | true => exact absurd (hM 27 23 rfl rfl) Bool.false_ne_true
      obtain rfl : b20 = true := haft ⟨20, .data⟩ (by simp) rfl
      obtain rfl : b22 = true := haft ⟨22, .data⟩ (by simp) rfl
      obtain rfl : b19 = true := hM 20 19 rfl rfl
      obtain rfl : b21 = true := hM 22 21 rfl rfl
      clear haft
      have hSr := HS rfl
      have hBl := hSr.bel
      obtain ⟨⟨q0, q1, q2, q3⟩, ⟨p0, p1, p2, p3⟩⟩ := HK.out w' hBl
      obtain rfl := N4 rfl
      go_simp
      go_at_call 203
      refine (shifted_c _ B.ends A.states _ ((HB.out.2.2).stay (kpB hBl)) (HRB.out.2.1) (by have := hsA.out; omega) (by have := HLB.out; omega)).mono ?_
      rintro e w1 ⟨vv, rfl, hbc, hoc⟩
      replace hoc := hoc.out
      rw [HBE.out] at hoc
      obtain ⟨aa, cc, rfl, _⟩ := OwnI.shape hoc
      exact hK _ _ ⟨⟨b0, b1, b2, b3, b4, b5, b6, b7, b8, b9, b10, b11, b12, b13, b14, b15, b16, b17, b18, true, true, true, true, true, false, false, false, false, false, false, false, false⟩, ⟨x12, x19, x20, x21, .slice aa be.length cc, x29, x30, undef, undef, undef, undef, undef, undef, undef, undef, undef⟩, ⟨hh, r0, r1, r2, r3, some ⟨3, 1, .slice aa be.length cc, be.length, be.map (.int .i64 ·)⟩, r5, r6, none⟩, rfl, rfl, Lib.hid ⟨N0, P0_0, N1, P1_0, N2, P2_0, N3, P3_0, nofun, fun _ => ⟨aa, cc, rfl, rfl⟩, N5, nofun, N6, nofun, nofun, fun _ => Sr.call [r0, r1, r2, r3] [r5, r6] ⟨3, 1, .slice aa be.length cc, be.length, be.map (.int .i64 ·)⟩ hSr hbc hoc⟩⟩
    refine StepsU.cons ?_ ?_
    · intro Q E0 listed a w' hI hM hk haft K hK
      obtain ⟨⟨b0, b1, b2, b3, b4, b5, b6, b7, b8, b9, b10, b11, b12, b13, b14, b15, b16, b17, b18, b19, b20, b21, b22, b23, b24, b25, b26, b27, b28_, b29_, b30_, b31_⟩, ⟨x12, x19, x20, x21, x28, x29, x30, xx7_, xx8_, xx9_, xx10_, xx11_, xx12_, xx13_, xx14_, xx15_⟩, ⟨hh, r0, r1, r2, r3, r4, r5, r6, r7⟩, hl, ha, HF⟩ := hI
      dsimp only at hl ha HF
      subst hl; subst ha
      obtain ⟨N0, P0_0, N1, P1_0, N2, P2_0, N3, P3_0, N4, P4_0, N5, P5_0, N6, P6_0, Z, HS⟩ := HF.out
      clear HF
      have hk' : b24 = false := hk
      subst hk'
      clear hk
      obtain rfl : b25 = false := by cases b25 with | false => rfl | true => exact absurd (hM 25 24 rfl rfl) Bool.false_ne_true
      obtain rfl : b26 = false := by cases b26 with | false => rfl | true => exact absurd (hM 26 25 rfl rfl) Bool.false_ne_true
      obtain rfl : b27 = false := by cases b27 with | false => rfl | true => exact absurd (hM 27 24 rfl rfl) Bool.false_ne_true
      obtain rfl : b18 = true := haft ⟨18, .data⟩ (by simp) rfl
      obtain rfl : b23 = true := haft ⟨23, .data⟩ (by simp) rfl
      obtain rfl : b17 = true := hM 18 17 rfl rfl
      obtain rfl : b20 = true := hM 23 20 rfl rfl
      obtain rfl : b22 = true := hM 23 22 rfl rfl
      obtain rfl : b19 = true := hM 20 19 rfl rfl
      obtain rfl : b21 = true := hM 22 21 rfl rfl
      clear haft
      obtain ⟨g23, c23, rfl, rfl⟩ := P4_0 rfl
      have hSr := HS rfl
      have hBl := hSr.bel
      obtain ⟨⟨q0, q1, q2, q3⟩, ⟨p0, p1, p2, p3⟩⟩ := HK.out w' hBl
      obtain rfl := N5 rfl
      go_simp
      exact hK _ _ ⟨⟨b0, b1, b2, b3, b4, b5, b6, b7, b8, b9, b10, b11, b12, b13, b14, b15, b16, true, true, true, true, true, true, true, true, false, false, false, false, false, false, false⟩, ⟨x12, x19, x20, x21, _, .slice (some ⟨w'.heap.size, 0, none⟩) 2 2, x30, undef, undef, undef, undef, undef, undef, undef, undef, undef⟩, ⟨hh, r0, r1, r2, r3, _, some ⟨34, 1, .slice (some ⟨w'.heap.size, 0, none⟩) 2 2, 2, _⟩, r6, none⟩, rfl, rfl, Lib.hid ⟨N0, P0_0, N1, P1_0, N2, P2_0, N3, P3_0, N4, fun _ => ⟨_, _, rfl, rfl⟩, nofun, fun _ => ⟨w'.heap.size, 2, rfl, rfl⟩, N6, nofun, nofun, fun _ => Sr.call [r0, r1, r2, r3, _] [r6] ⟨34, 1, .slice (some ⟨w'.heap.size, 0, none⟩) 2 2, 2, _⟩ hSr ((Below.refl _ _).alloc (Nat.le_refl _) _) (ownLit (n := 2) _ (Nat.le_refl _) (by omega) rfl)⟩⟩
    refine StepsU.cons ?_ ?_
    · intro Q E0 listed a w' hI hM hk haft K hK
      obtain ⟨⟨b0, b1, b2, b3, b4, b5, b6, b7, b8, b9, b10, b11, b12, b13, b14, b15, b16, b17, b18, b19, b20, b21, b22, b23, b24, b25, b26, b27, b28_, b29_, b30_, b31_⟩, ⟨x12, x19, x20, x21, x28, x29, x30, xx7_, xx8_, xx9_, xx10_, xx11_, xx12_, xx13_, xx14_, xx15_⟩, ⟨hh, r0, r1, r2, r3, r4, r5, r6, r7⟩, hl, ha, HF⟩ := hI
      dsimp only at hl ha HF
      subst hl; subst ha
      obtain ⟨N0, P0_0, N1, P1_0, N2, P2_0, N3, P3_0, N4, P4_0, N5, P5_0, N6, P6_0, Z, HS⟩ := HF.out
      clear HF
      have hk' : b25 = false := hk
      subst hk'
      clear hk
      obtain rfl : b26 = false := by cases b26 with | false => rfl | true => exact absurd (hM 26 25 rfl rfl) Bool.false_ne_true
      obtain rfl : b27 = false := by cases b27 with | false => rfl | true => exact absurd (hM 27 25 rfl rfl) Bool.false_ne_true
      obtain rfl : b24 = true := haft ⟨24, .data⟩ (by simp) rfl
      obtain rfl : b18 = true := hM 24 18 rfl rfl
      obtain rfl : b23 = true := hM 24 23 rfl rfl
      obtain rfl : b17 = true := hM 18 17 rfl rfl
      obtain rfl : b20 = true := hM 23 20 rfl rfl
      obtain rfl : b22 = true := hM 23 22 rfl rfl
      obtain rfl : b19 = true := hM 20 19 rfl rfl
      obtain rfl : b21 = true := hM 22 21 rfl rfl
      clear haft
      obtain ⟨g24, c24, rfl, rfl⟩ := P5_0 rfl
      obtain ⟨g23, c23, rfl, rfl⟩ := P4_0 rfl
      have hSr := HS rfl
      have hBl := hSr.bel
      obtain ⟨⟨q0, q1, q2, q3⟩, ⟨p0, p1, p2, p3⟩⟩ := HK.out w' hBl
      obtain rfl := N6 rfl
      go_simp
      go_at_call 159
      refine (concatTwo_c (S := fun _ => True) _ _ A.ends be _ (ownBase (hSr.at 5 rfl) (Nat.zero_le _)) (((HA.out.2.2).stay (kpB hBl)).mono (fun _ _ => trivial)) ((ownFl (hSr.at 4 rfl)).fl.mono (fun _ _ => trivial)) (by have := HLA.out; have := HSL.out; omega)).mono ?_
      rintro e w1 ⟨vv, rfl, hbc, hoc⟩
      replace hoc := hoc.out
      rw [HEB.out] at hoc
      obtain ⟨aa, cc, rfl, _⟩ := OwnI.shape hoc
      exact hK _ _ ⟨⟨b0, b1, b2, b3, b4, b5, b6, b7, b8, b9, b10, b11, b12, b13, b14, b15, b16, true, true, true, true, true, true, true, true, true, false, false, false, false, false, false⟩, ⟨x12, x19, x20, x21, _, _, .slice aa eb.length cc, undef, undef, undef, undef, undef, undef, undef, undef, undef⟩, ⟨hh, r0, r1, r2, r3, _, _, some ⟨3, 1, .slice aa eb.length cc, eb.length, eb.map (.int .i64 ·)⟩, none⟩, rfl, rfl, Lib.hid ⟨N0, P0_0, N1, P1_0, N2, P2_0, N3, P3_0, N4, fun _ => ⟨_, _, rfl, rfl⟩, N5, fun _ => ⟨_, _, rfl, rfl⟩, nofun, fun _ => ⟨aa, cc, rfl, rfl⟩, nofun, fun _ => Sr.call [r0, r1, r2, r3, _, _] [] ⟨3, 1, .slice aa eb.length cc, eb.length, eb.map (.int .i64 ·)⟩ hSr hbc hoc⟩⟩
    refine StepsU.cons ?_ ?_
    · intro Q E0 listed a w' hI hM hk haft K hK
      obtain ⟨⟨b0, b1, b2, b3, b4, b5, b6, b7, b8, b9, b10, b11, b12, b13, b14, b15, b16, b17, b18, b19, b20, b21, b22, b23, b24, b25, b26, b27, b28_, b29_, b30_, b31_⟩, ⟨x12, x19, x20, x21, x28, x29, x30, xx7_, xx8_, xx9_, xx10_, xx11_, xx12_, xx13_, xx14_, xx15_⟩, ⟨hh, r0, r1, r2, r3, r4, r5, r6, r7⟩, hl, ha, HF⟩ := hI
      dsimp only at hl ha HF
      subst hl; subst ha
      obtain ⟨N0, P0_0, N1, P1_0, N2, P2_0, N3, P3_0, N4, P4_0, N5, P5_0, N6, P6_0, Z, HS⟩ := HF.out
      clear HF
      have hk' : b26 = false := hk
      subst hk'
      clear hk
      obtain rfl : b27 = false := by cases b27 with | false => rfl | true => exact absurd (hM 27 26 rfl rfl) Bool.false_ne_true
      obtain rfl : b4 = true := haft ⟨4, .data⟩ (by simp) rfl
      obtain rfl : b7 = true := haft ⟨7, .data⟩ (by simp) rfl
      obtain rfl : b16 = true := haft ⟨16, .data⟩ (by simp) rfl
      obtain rfl : b25 = true := haft ⟨25, .data⟩ (by simp) rfl
      obtain rfl : b1 = true := hM 4 1 rfl rfl
      obtain rfl : b3 = true := hM 4 3 rfl rfl
      obtain rfl : b5 = true := hM 7 5 rfl rfl
      obtain rfl : b6 = true := hM 7 6 rfl rfl
      obtain rfl : b15 = true := hM 16 15 rfl rfl
      obtain rfl : b24 = true := hM 25 24 rfl rfl
      obtain rfl : b0 = true := hM 1 0 rfl rfl
      obtain rfl : b2 = true := hM 3 2 rfl rfl
      obtain rfl : b9 = true := hM 15 9 rfl rfl
      obtain rfl : b14 = true := hM 15 14 rfl rfl
      obtain rfl : b18 = true := hM 24 18 rfl rfl
      obtain rfl : b23 = true := hM 24 23 rfl rfl
      obtain rfl : b8 = true := hM 9 8 rfl rfl
      obtain rfl : b11 = true := hM 14 11 rfl rfl
      obtain rfl : b13 = true := hM 14 13 rfl rfl
      obtain rfl : b17 = true := hM 18 17 rfl rfl
      obtain rfl : b20 = true := hM 23 20 rfl rfl
      obtain rfl : b22 = true := hM 23 22 rfl rfl
      obtain rfl : b10 = true := hM 11 10 rfl rfl
      obtain rfl : b12 = true := hM 13 12 rfl rfl
      obtain rfl : b19 = true := hM 20 19 rfl rfl
      obtain rfl : b21 = true := hM 22 21 rfl rfl
      clear haft
      obtain ⟨g7, c7, rfl, rfl⟩ := P0_0 rfl
      obtain ⟨g16, c16, rfl, rfl⟩ := P3_0 rfl
      obtain ⟨g25, c25, rfl, rfl⟩ := P6_0 rfl
      obtain ⟨g15, c15, rfl, rfl⟩ := P2_0 rfl
      obtain ⟨g24, c24, rfl, rfl⟩ := P5_0 rfl
      obtain ⟨g14, c14, rfl, rfl⟩ := P1_0 rfl
      obtain ⟨g23, c23, rfl, rfl⟩ := P4_0 rfl
      have hSr := HS rfl
      have hBl := hSr.bel
      obtain ⟨⟨q0, q1, q2, q3⟩, ⟨p0, p1, p2, p3⟩⟩ := HK.out w' hBl
      go_simp
      exact hK _ _ ⟨⟨true, true, true, true, true, true, true, true, true, true, true, true, true, true, true, true, true, true, true, true, true, true, true, true, true, true, true, false, false, false, false, false⟩, ⟨_, _, _, _, _, _, _, undef, undef, undef, undef, undef, undef, undef, undef, undef⟩, ⟨hh, _, _, _, _, _, _, _, none⟩, rfl, rfl, Lib.hid ⟨N0, fun _ => ⟨_, _, rfl, rfl⟩, N1, fun _ => ⟨_, _, rfl, rfl⟩, N2, fun _ => ⟨_, _, rfl, rfl⟩, N3, fun _ => ⟨_, _, rfl, rfl⟩, N4, fun _ => ⟨_, _, rfl, rfl⟩, N5, fun _ => ⟨_, _, rfl, rfl⟩, N6, fun _ => ⟨_, _, rfl, rfl⟩, nofun, fun _ => hSr⟩⟩
    refine StepsU.cons ?_ ?_
    · intro Q E0 listed a w' hI hM hk haft K hK
      obtain ⟨⟨b0, b1, b2, b3, b4, b5, b6, b7, b8, b9, b10, b11, b12, b13, b14, b15, b16, b17, b18, b19, b20, b21, b22, b23, b24, b25, b26, b27, b28_, b29_, b30_, b31_⟩, ⟨x12, x19, x20, x21, x28, x29, x30, xx7_, xx8_, xx9_, xx10_, xx11_, xx12_, xx13_, xx14_, xx15_⟩, ⟨hh, r0, r1, r2, r3, r4, r5, r6, r7⟩, hl, ha, HF⟩ := hI
      dsimp only at hl ha HF
      subst hl; subst ha
      obtain ⟨N0, P0_0, N1, P1_0, N2, P2_0, N3, P3_0, N4, P4_0, N5, P5_0, N6, P6_0, Z, HS⟩ := HF.out
      clear HF
      have hk' : b27 = false := hk
      subst hk'
      clear hk
      obtain rfl : b26 = true := haft ⟨26, .data⟩ (by simp) rfl
      obtain rfl : b0 = true := haft ⟨0, .phase⟩ (by simp) rfl
      obtain rfl : b1 = true := haft ⟨1, .phase⟩ (by simp) rfl
      obtain rfl : b2 = true := haft ⟨2, .phase⟩ (by simp) rfl
      obtain rfl : b3 = true := haft ⟨3, .phase⟩ (by simp) rfl
      obtain rfl : b4 = true := haft ⟨4, .phase⟩ (by simp) rfl
      obtain rfl : b5 = true := haft ⟨5, .phase⟩ (by simp) rfl
      obtain rfl : b6 = true := haft ⟨6, .phase⟩ (by simp) rfl
      obtain rfl : b7 = true := haft ⟨7, .phase⟩ (by simp) rfl
      obtain rfl : b8 = true := haft ⟨8, .phase⟩ (by simp) rfl
      obtain rfl : b9 = true := haft ⟨9, .phase⟩ (by simp) rfl
      obtain rfl : b10 = true := haft ⟨10, .phase⟩ (by simp) rfl
      obtain rfl : b11 = true := haft ⟨11, .phase⟩ (by simp) rfl
      obtain rfl : b12 = true := haft ⟨12, .phase⟩ (by simp) rfl
      obtain rfl : b13 = true := haft ⟨13, .phase⟩ (by simp) rfl
      obtain rfl : b14 = true := haft ⟨14, .phase⟩ (by simp) rfl
      obtain rfl : b15 = true := haft ⟨15, .phase⟩ (by simp) rfl
      obtain rfl : b16 = true := haft ⟨16, .phase⟩ (by simp) rfl
      obtain rfl : b17 = true := haft ⟨17, .phase⟩ (by simp) rfl
      obtain rfl : b18 = true := haft ⟨18, .phase⟩ (by simp) rfl
      obtain rfl : b19 = true := haft ⟨19, .phase⟩ (by simp) rfl
      obtain rfl : b20 = true := haft ⟨20, .phase⟩ (by simp) rfl
      obtain rfl : b21 = true := haft ⟨21, .phase⟩ (by simp) rfl
      obtain rfl : b22 = true := haft ⟨22, .phase⟩ (by simp) rfl
      obtain rfl : b23 = true := haft ⟨23, .phase⟩ (by simp) rfl
      obtain rfl : b24 = true := haft ⟨24, .phase⟩ (by simp) rfl
      obtain rfl : b25 = true := haft ⟨25, .phase⟩ (by simp) rfl
      clear haft
      obtain ⟨g7, c7, rfl, rfl⟩ := P0_0 rfl
      obtain ⟨g14, c14, rfl, rfl⟩ := P1_0 rfl
      obtain ⟨g15, c15, rfl, rfl⟩ := P2_0 rfl
      obtain ⟨g16, c16, rfl, rfl⟩ := P3_0 rfl
      obtain ⟨g23, c23, rfl, rfl⟩ := P4_0 rfl
      obtain ⟨g24, c24, rfl, rfl⟩ := P5_0 rfl
      obtain ⟨g25, c25, rfl, rfl⟩ := P6_0 rfl
      have hSr := HS rfl
      have hBl := hSr.bel
      obtain ⟨⟨q0, q1, q2, q3⟩, ⟨p0, p1, p2, p3⟩⟩ := HK.out w' hBl
      have hh1 := blkBel hBl k2.out
      obtain ⟨e0, e1, e2, e3⟩ := blk4 hh1
      have g1 := blkFz hh1
      have hbs := Hb0.out.size
      have HNO := (show NfaO W.heap.size w' _ _ _ ⟨A.states + B.states, sm, fb, eb⟩ from ⟨hSr.at 0 rfl, hSr.at 3 rfl, hSr.at 6 rfl, fun b hb => hSr.neq (i := 3) (j := 6) (by omega) rfl rfl b hb⟩)
      go_simp
      exact hK _ _ ⟨⟨true, true, true, true, true, true, true, true, true, true, true, true, true, true, true, true, true, true, true, true, true, true, true, true, true, true, true, true, false, false, false, false⟩, ⟨_, _, _, _, _, _, _, undef, undef, undef, undef, undef, undef, undef, undef, undef⟩, ⟨hh, _, _, _, _, _, _, _, none⟩, rfl, rfl, Lib.hid ⟨N0, fun _ => ⟨_, _, rfl, rfl⟩, N1, fun _ => ⟨_, _, rfl, rfl⟩, N2, fun _ => ⟨_, _, rfl, rfl⟩, N3, fun _ => ⟨_, _, rfl, rfl⟩, N4, fun _ => ⟨_, _, rfl, rfl⟩, N5, fun _ => ⟨_, _, rfl, rfl⟩, N6, fun _ => ⟨_, _, rfl, rfl⟩, fun _ => ⟨_, _, _, (HNO.set4 (w.heap.size + 2) (by have := hz.out; have := hBl.size; omega) hh1 (by decide) _ _ _ _).base hbs, bel4 (Hb0.out.trans (hBl.mono hbs)) (by omega) _ _ _ _, blk4s hh1⟩, nofun⟩⟩
    exact StepsU.nil
  · intro G0 hG0 listed a w' hI hall
    obtain ⟨⟨b0, b1, b2, b3, b4, b5, b6, b7, b8, b9, b10, b11, b12, b13, b14, b15, b16, b17, b18, b19, b20, b21, b22, b23, b24, b25, b26, b27, b28_, b29_, b30_, b31_⟩, ⟨x12, x19, x20, x21, x28, x29, x30, xx7_, xx8_, xx9_, xx10_, xx11_, xx12_, xx13_, xx14_, xx15_⟩, ⟨hh, r0, r1, r2, r3, r4, r5, r6, r7⟩, hl, ha, HF⟩ := hI
    dsimp only at hl ha HF
    subst hl; subst ha
    obtain rfl : b0 = true := hall 0 (by decide)
    obtain rfl : b1 = true := hall 1 (by decide)
    obtain rfl : b2 = true := hall 2 (by decide)
    obtain rfl : b3 = true := hall 3 (by decide)
    obtain rfl : b4 = true := hall 4 (by decide)
    obtain rfl : b5 = true := hall 5 (by decide)
    obtain rfl : b6 = true := hall 6 (by decide)
    obtain rfl : b7 = true := hall 7 (by decide)
    obtain rfl : b8 = true := hall 8 (by decide)
    obtain rfl : b9 = true := hall 9 (by decide)
    obtain rfl : b10 = true := hall 10 (by decide)
    obtain rfl : b11 = true := hall 11 (by decide)
    obtain rfl : b12 = true := hall 12 (by decide)
    obtain rfl : b13 = true := hall 13 (by decide)
    obtain rfl : b14 = true := hall 14 (by decide)
    obtain rfl : b15 = true := hall 15 (by decide)
    obtain rfl : b16 = true := hall 16 (by decide)
    obtain rfl : b17 = true := hall 17 (by decide)
    obtain rfl : b18 = true := hall 18 (by decide)
    obtain rfl : b19 = true := hall 19 (by decide)
    obtain rfl : b20 = true := hall 20 (by decide)
    obtain rfl : b21 = true := hall 21 (by decide)
    obtain rfl : b22 = true := hall 22 (by decide)
    obtain rfl : b23 = true := hall 23 (by decide)
    obtain rfl : b24 = true := hall 24 (by decide)
    obtain rfl : b25 = true := hall 25 (by decide)
    obtain rfl : b26 = true := hall 26 (by decide)
    obtain rfl : b27 = true := hall 27 (by decide)
    exact hG0 _ _ _ _ _ _ _ _ (HF.out.2.2.2.2.2.2.2.2.2.2.2.2.2.2.1 rfl)
  · intro x12 x19 x20 x21 x28 x29 x30 w' hFin
    obtain ⟨vm, vf, ve, HN, hbl, h2⟩ := hFin
    have HO := Lib.hid HN; clear HN HK
    obtain ⟨a1', n1', ca1', rfl⟩ := HO.out.1.sl
    obtain ⟨a2', n2', ca2', rfl⟩ := HO.out.2.1.sl
    obtain ⟨a3', n3', ca3', rfl⟩ := HO.out.2.2.1.sl
    obtain ⟨f0, f1, f2, f3⟩ := blk4 h2
    have g1 := blkFz h2
    go_wp2
    refine bodyPost_ret (v := .agg #[.int .i64 (A.states + B.states), .slice a1' n1' ca1', .slice a2' n2' ca2', .slice a3' n3' ca3']) (by simp [results, Try.results166, go_sem, f0, f1, f2, f3, g1]) rfl ⟨_, _, _, rfl, hbl, by have h := HO.out; rw [← HSM.out, ← HFB.out, ← HEB.out, ← HBF.out, ← HBE.out] at h; exact h⟩
end Go.Proofs.Ytnjddneelkdmoaa
