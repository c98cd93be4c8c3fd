/- One language's words behind each other: the program's automaton. -/
import Derived.Test.YtnjddneelkdmoaaNfs
import Derived.Test.YtnjddneelkdmoaaTrn
set_option linter.unusedSimpArgs false
set_option linter.unusedVariables false
set_option linter.unusedSectionVars false
namespace Go.Proofs.Ytnjddneelkdmoaa
open Go.RowKit
set_option maxRecDepth 100000
variable {S T : Nat → Prop}
set_option maxHeartbeats 4000000 in
theorem starNfa_c (vm vf ve : Value) (D : NfaD) (w : World) (h : NfaR S w vm vf ve D) (hD : okN D) : Calls Try.prog 168 #[.agg #[.int .i64 D.states, vm, vf, ve]] w (RNf w (starD D)) := by
  obtain ⟨a1, c1, a2, c2, a3, c3, rfl, rfl, rfl, hn1, hn2, hn3⟩ := h.shapes
  obtain ⟨W, hW⟩ : ∃ W, W = (w.alloc (.cells #[.int .i64 D.states, .slice a1 D.moves.length c1, .slice a2 D.firsts.length c2, .slice a3 D.ends.length c3] 36)).alloc (.cells #[.int .i64 0, .slice none 0 0, .slice none 0 0, .slice none 0 0] 36) := ⟨_, rfl⟩
  have Hb0 : Hid (Below w.heap.size w W) := by rw [hW]; exact ((Below.refl _ _).alloc (Nat.le_refl _) _).alloc (by simp) _
  have k0 : Hid (W.heap[w.heap.size]? = some (.cells #[.int .i64 D.states, .slice a1 D.moves.length c1, .slice a2 D.firsts.length c2, .slice a3 D.ends.length c3] 36 (0, 0))) := by rw [hW]; exact blkOld (blkNew _ _ rfl)
  have k1 : Hid (W.heap[w.heap.size + 1]? = some (.cells #[.int .i64 0, .slice none 0 0, .slice none 0 0, .slice none 0 0] 36 (0, 0))) := by rw [hW]; exact blkNew _ _ (by simp)
  have hz : Hid (W.heap.size = w.heap.size + 2) := by rw [hW]; simp [Hid]
  have H0 := Lib.hid h
  have H := Lib.hid (h.stay (kpB Hb0.out)); clear h
  have hwr : IntKind.i64.wrap (D.states + 1) = D.states + 1 := IntWalk.i64_in _ (by have := hD.1; omega)
  have HLN := Lib.hid (okN_len hD)
  have HW := Lib.hid hW; clear hW hD
  go_enter Try.func168, Try.ntmps168
  go_wp2_with fail
  rw [← HW.out]
  clear HW
  have HK : Hid (∀ w', Below W.heap.size W w' → w'.cell? ⟨w.heap.size, 0, none⟩ = some (.int .i64 D.states) ∧ w'.cell? ⟨w.heap.size, 1, none⟩ = some (.slice a1 D.moves.length c1) ∧ w'.cell? ⟨w.heap.size, 2, none⟩ = some (.slice a2 D.firsts.length c2) ∧ w'.cell? ⟨w.heap.size, 3, none⟩ = some (.slice a3 D.ends.length c3)) := fun w' hb => blk4 (blkBel hb k0.out)
  refine wp_region_inv2 [(1, 0), (2, 1), (4, 3), (5, 4), (7, 6), (8, 7), (10, 9), (11, 10), (12, 2), (12, 5), (12, 8), (12, 11), (14, 0), (14, 1), (14, 2), (14, 3), (14, 4), (14, 5), (14, 6), (14, 7), (14, 8), (14, 9), (14, 10), (14, 11), (14, 12), (14, 13)] (fun listed a w' => ∃ (b0 b1 b2 b3 b4 b5 b6 b7 b8 b9 b10 b11 b12 b13 b14 : Bool) (x3 x13 x16 x19 : Value) (hh : Option (Nat × Obj)) (r0 r1 r2 : Option Rw), listed = #[b0, b1, b2, b3, b4, b5, b6, b7, b8, b9, b10, b11, b12, b13, b14] ∧ a = { tmps := #[.agg #[.int .i64 D.states, .slice a1 D.moves.length c1, .slice a2 D.firsts.length c2, .slice a3 D.ends.length c3], .pointer (some ⟨w.heap.size, 0, none⟩), .pointer (some ⟨w.heap.size + 1, 0, none⟩), x3, undef, undef, undef, undef, cond b0 (.pointer (some ⟨w.heap.size, 0, none⟩)) (undef), cond b1 (.int .i64 D.states) (undef), cond b2 (.int .i64 (D.states + 1)) (undef), cond b3 (.pointer (some ⟨w.heap.size, 1, none⟩)) (undef), cond b4 (.slice a1 D.moves.length c1) (undef), x13, cond b6 (.pointer (some ⟨w.heap.size, 0, none⟩)) (undef), cond b7 (.int .i64 D.states) (undef), x16, cond b9 (.pointer (some ⟨w.heap.size, 0, none⟩)) (undef), cond b10 (.int .i64 D.states) (undef), x19, cond b12 (.agg #[.int .i64 (D.states + 1), x13, x16, x19]) (undef), undef, undef, undef, undef, undef, undef, undef, undef, undef, undef, undef, undef, undef, undef, undef, undef, undef, undef, undef, undef, undef, undef, undef, undef, undef, undef, undef, undef, undef, undef, undef, undef, undef, undef, undef], defers := [] } ∧ Hid ((b5 = false → r0 = none) ∧ (b5 = true → ∃ (g : Option Addr) (c : Nat), x13 = .slice (g) (D.moves.length) c ∧ r0 = some ⟨40, 3, x13, D.moves.length, cells3 D.moves⟩) ∧ (b8 = false → r1 = none) ∧ (b8 = true → ∃ (g : Nat) (c : Nat), x16 = .slice (some ⟨g, 0, none⟩) (1) c ∧ r1 = some ⟨3, 1, x16, 1, [.int .i64 D.states]⟩) ∧ (b11 = false → r2 = none) ∧ (b11 = true → ∃ (g : Nat) (c : Nat), x19 = .slice (some ⟨g, 0, none⟩) (1) c ∧ r2 = some ⟨3, 1, x19, 1, [.int .i64 D.states]⟩) ∧ (b13 = false → hh = none) ∧ (b13 = true → b14 = false → ∃ g : Nat, x3 = .pointer (some ⟨g, 0, none⟩) ∧ hh = some (g, .cells #[.int .i64 0, .slice none 0 0, .slice none 0 0, .slice none 0 0] 36 (0, 0))) ∧ (b14 = true → ∃ (g : Nat) (vm vf ve : Value), x3 = .pointer (some ⟨g, 0, none⟩) ∧ w.heap.size + 1 < g ∧ NSt w w' g w.heap.size (D.states + 1) vm vf ve D.moves [D.states] [D.states] ∧ w'.heap[w.heap.size]? = some (.cells #[.int .i64 D.states, .slice a1 D.moves.length c1, .slice a2 D.firsts.length c2, .slice a3 D.ends.length c3] 36 (0, 0)) ∧ w'.heap[w.heap.size + 1]? = some (.cells #[.int .i64 0, .slice none 0 0, .slice none 0 0, .slice none 0 0] 36 (0, 0))) ∧ (b14 = false → Sr W w' hh [r0, r1, r2]))) (fun G => ∀ (x3 x13 x16 x19 : Value) (w' : World), (∃ (g : Nat) (vm vf ve : Value), x3 = .pointer (some ⟨g, 0, none⟩) ∧ w.heap.size + 1 < g ∧ NSt w w' g w.heap.size (D.states + 1) vm vf ve D.moves [D.states] [D.states] ∧ w'.heap[w.heap.size]? = some (.cells #[.int .i64 D.states, .slice a1 D.moves.length c1, .slice a2 D.firsts.length c2, .slice a3 D.ends.length c3] 36 (0, 0)) ∧ w'.heap[w.heap.size + 1]? = some (.cells #[.int .i64 0, .slice none 0 0, .slice none 0 0, .slice none 0 0] 36 (0, 0))) → G { tmps := #[.agg #[.int .i64 D.states, .slice a1 D.moves.length c1, .slice a2 D.firsts.length c2, .slice a3 D.ends.length c3], .pointer (some ⟨w.heap.size, 0, none⟩), .pointer (some ⟨w.heap.size + 1, 0, none⟩), x3, undef, undef, undef, undef, .pointer (some ⟨w.heap.size, 0, none⟩), .int .i64 D.states, .int .i64 (D.states + 1), .pointer (some ⟨w.heap.size, 1, none⟩), .slice a1 D.moves.length c1, x13, .pointer (some ⟨w.heap.size, 0, none⟩), .int .i64 D.states, x16, .pointer (some ⟨w.heap.size, 0, none⟩), .int .i64 D.states, x19, .agg #[.int .i64 (D.states + 1), x13, x16, x19], undef, undef, undef, undef, undef, undef, undef, undef, undef, undef, undef, undef, undef, undef, undef, undef, undef, undef, undef, undef, undef, undef, undef, undef, undef, undef, undef, undef, undef, undef, undef, undef, undef, undef, undef], defers := [] } w') (by kernel_rfl) (by kernel_rfl) (by kernel_rfl) (by kernel_rfl) ?_ ?_ ?_ ?_
  · exact ⟨false, false, false, false, false, false, false, false, false, false, false, false, false, false, false, undef, undef, undef, undef, none, none, none, none, rfl, rfl, Lib.hid ⟨fun _ => rfl, nofun, fun _ => rfl, nofun, fun _ => rfl, nofun, fun _ => rfl, nofun, nofun, fun _ => Sr.start W 3⟩⟩
  · refine StepsU.cons ?_ ?_
    · intro Q E0 listed a w' hI hM hk haft K hK
      obtain ⟨b0, b1, b2, b3, b4, b5, b6, b7, b8, b9, b10, b11, b12, b13, b14, x3, x13, x16, x19, hh, r0, r1, r2, hl, ha, HF⟩ := hI
      subst hl; subst ha
      obtain ⟨N0, P0_0, N1, P1_0, N2, P2_0, NH, PH, Z, HS⟩ := HF.out
      clear HF
      have hk' : b0 = false := hk
      subst hk'
      clear hk
      obtain rfl : b1 = false := by cases b1 with | false => rfl | true => exact absurd (hM 1 0 rfl rfl) Bool.false_ne_true
      obtain rfl : b2 = false := by cases b2 with | false => rfl | true => exact absurd (hM 2 1 rfl rfl) Bool.false_ne_true
      obtain rfl : b12 = false := by cases b12 with | false => rfl | true => exact absurd (hM 12 2 rfl rfl) Bool.false_ne_true
      obtain rfl : b14 = false := by cases b14 with | false => rfl | true => exact absurd (hM 14 0 rfl rfl) Bool.false_ne_true
      clear haft
      have hSr := HS rfl
      have hBl := hSr.bel
      obtain ⟨q0, q1, q2, q3⟩ := HK.out w' hBl
      go_simp
      exact hK _ _ ⟨true, false, false, b3, b4, b5, b6, b7, b8, b9, b10, b11, false, b13, false, _, _, _, _, _, _, _, _, rfl, rfl, Lib.hid ⟨N0, P0_0, N1, P1_0, N2, P2_0, NH, PH, nofun, fun _ => hSr⟩⟩
    refine StepsU.cons ?_ ?_
    · intro Q E0 listed a w' hI hM hk haft K hK
      obtain ⟨b0, b1, b2, b3, b4, b5, b6, b7, b8, b9, b10, b11, b12, b13, b14, x3, x13, x16, x19, hh, r0, r1, r2, hl, ha, HF⟩ := hI
      subst hl; subst ha
      obtain ⟨N0, P0_0, N1, P1_0, N2, P2_0, NH, PH, Z, HS⟩ := HF.out
      clear HF
      have hk' : b1 = false := hk
      subst hk'
      clear hk
      obtain rfl : b2 = false := by cases b2 with | false => rfl | true => exact absurd (hM 2 1 rfl rfl) Bool.false_ne_true
      obtain rfl : b12 = false := by cases b12 with | false => rfl | true => exact absurd (hM 12 2 rfl rfl) Bool.false_ne_true
      obtain rfl : b14 = false := by cases b14 with | false => rfl | true => exact absurd (hM 14 1 rfl rfl) Bool.false_ne_true
      obtain rfl : b0 = true := haft ⟨0, .data⟩ (by simp) rfl
      clear haft
      have hSr := HS rfl
      have hBl := hSr.bel
      obtain ⟨q0, q1, q2, q3⟩ := HK.out w' hBl
      go_simp
      exact hK _ _ ⟨true, true, false, b3, b4, b5, b6, b7, b8, b9, b10, b11, false, b13, false, _, _, _, _, _, _, _, _, rfl, rfl, Lib.hid ⟨N0, P0_0, N1, P1_0, N2, P2_0, NH, PH, nofun, fun _ => hSr⟩⟩
    refine StepsU.cons ?_ ?_
    · intro Q E0 listed a w' hI hM hk haft K hK
      obtain ⟨b0, b1, b2, b3, b4, b5, b6, b7, b8, b9, b10, b11, b12, b13, b14, x3, x13, x16, x19, hh, r0, r1, r2, hl, ha, HF⟩ := hI
      subst hl; subst ha
      obtain ⟨N0, P0_0, N1, P1_0, N2, P2_0, NH, PH, Z, HS⟩ := HF.out
      clear HF
      have hk' : b2 = false := hk
      subst hk'
      clear hk
      obtain rfl : b12 = false := by cases b12 with | false => rfl | true => exact absurd (hM 12 2 rfl rfl) Bool.false_ne_true
      obtain rfl : b14 = false := by cases b14 with | false => rfl | true => exact absurd (hM 14 2 rfl rfl) Bool.false_ne_true
      obtain rfl : b1 = true := haft ⟨1, .data⟩ (by simp) rfl
      obtain rfl : b0 = true := hM 1 0 rfl rfl
      clear haft
      have hSr := HS rfl
      have hBl := hSr.bel
      obtain ⟨q0, q1, q2, q3⟩ := HK.out w' hBl
      go_simp
      exact hK _ _ ⟨true, true, true, b3, b4, b5, b6, b7, b8, b9, b10, b11, false, b13, false, _, _, _, _, _, _, _, _, rfl, rfl, Lib.hid ⟨N0, P0_0, N1, P1_0, N2, P2_0, NH, PH, nofun, fun _ => hSr⟩⟩
    refine StepsU.cons ?_ ?_
    · intro Q E0 listed a w' hI hM hk haft K hK
      obtain ⟨b0, b1, b2, b3, b4, b5, b6, b7, b8, b9, b10, b11, b12, b13, b14, x3, x13, x16, x19, hh, r0, r1, r2, hl, ha, HF⟩ := hI
      subst hl; subst ha
      obtain ⟨N0, P0_0, N1, P1_0, N2, P2_0, NH, PH, Z, HS⟩ := HF.out
      clear HF
      have hk' : b3 = false := hk
      subst hk'
      clear hk
      obtain rfl : b4 = false := by cases b4 with | false => rfl | true => exact absurd (hM 4 3 rfl rfl) Bool.false_ne_true
      obtain rfl : b5 = false := by cases b5 with | false => rfl | true => exact absurd (hM 5 4 rfl rfl) Bool.false_ne_true
      obtain rfl : b12 = false := by cases b12 with | false => rfl | true => exact absurd (hM 12 5 rfl rfl) Bool.false_ne_true
      obtain rfl : b14 = false := by cases b14 with | false => rfl | true => exact absurd (hM 14 3 rfl rfl) Bool.false_ne_true
      clear haft
      have hSr := HS rfl
      have hBl := hSr.bel
      obtain ⟨q0, q1, q2, q3⟩ := HK.out w' hBl
      go_simp
      exact hK _ _ ⟨b0, b1, b2, true, false, false, b6, b7, b8, b9, b10, b11, false, b13, false, _, _, _, _, _, _, _, _, rfl, rfl, Lib.hid ⟨N0, P0_0, N1, P1_0, N2, P2_0, NH, PH, nofun, fun _ => hSr⟩⟩
    refine StepsU.cons ?_ ?_
    · intro Q E0 listed a w' hI hM hk haft K hK
      obtain ⟨b0, b1, b2, b3, b4, b5, b6, b7, b8, b9, b10, b11, b12, b13, b14, x3, x13, x16, x19, hh, r0, r1, r2, hl, ha, HF⟩ := hI
      subst hl; subst ha
      obtain ⟨N0, P0_0, N1, P1_0, N2, P2_0, NH, PH, Z, HS⟩ := HF.out
      clear HF
      have hk' : b4 = false := hk
      subst hk'
      clear hk
      obtain rfl : b5 = false := by cases b5 with | false => rfl | true => exact absurd (hM 5 4 rfl rfl) Bool.false_ne_true
      obtain rfl : b12 = false := by cases b12 with | false => rfl | true => exact absurd (hM 12 5 rfl rfl) Bool.false_ne_true
      obtain rfl : b14 = false := by cases b14 with | false => rfl | true => exact absurd (hM 14 4 rfl rfl) Bool.false_ne_true
      obtain rfl : b3 = true := haft ⟨3, .data⟩ (by simp) rfl
      clear haft
      have hSr := HS rfl
      have hBl := hSr.bel
      obtain ⟨q0, q1, q2, q3⟩ := HK.out w' hBl
      go_simp
      exact hK _ _ ⟨b0, b1, b2, true, true, false, b6, b7, b8, b9, b10, b11, false, b13, false, _, _, _, _, _, _, _, _, rfl, rfl, Lib.hid ⟨N0, P0_0, N1, P1_0, N2, P2_0, NH, PH, nofun, fun _ => hSr⟩⟩
    refine StepsU.cons ?_ ?_
    · intro Q E0 listed a w' hI hM hk haft K hK
      obtain ⟨b0, b1, b2, b3, b4, b5, b6, b7, b8, b9, b10, b11, b12, b13, b14, x3, x13, x16, x19, hh, r0, r1, r2, hl, ha, HF⟩ := hI
      subst hl; subst ha
      obtain ⟨N0, P0_0, N1, P1_0, N2, P2_0, NH, PH, Z, HS⟩ := HF.out
      clear HF
      have hk' : b5 = false := hk
      subst hk'
      clear hk
      obtain rfl : b12 = false := by cases b12 with | false => rfl | true => exact absurd (hM 12 5 rfl rfl) Bool.false_ne_true
      obtain rfl : b14 = false := by cases b14 with | false => rfl | true => exact absurd (hM 14 5 rfl rfl) Bool.false_ne_true
      obtain rfl : b4 = true := haft ⟨4, .data⟩ (by simp) rfl
      obtain rfl : b3 = true := hM 4 3 rfl rfl
      clear haft
      have hSr := HS rfl
      have hBl := hSr.bel
      obtain ⟨q0, q1, q2, q3⟩ := HK.out w' hBl
      obtain rfl := N0 rfl
      go_simp
      go_at_call 205
      refine (cloneMove_c _ D.moves _ ((H.out.1).stay (kpB hBl)) (by have := HLN.out; omega)).mono ?_
      rintro e w1 ⟨vv, rfl, hbc, hoc⟩
      obtain ⟨aa, cc, rfl, _⟩ := hoc.out.shape
      replace hoc := hoc.out
      exact hK _ _ ⟨b0, b1, b2, true, true, true, b6, b7, b8, b9, b10, b11, false, b13, false, _, .slice aa D.moves.length cc, _, _, _, some ⟨40, 3, .slice aa D.moves.length cc, D.moves.length, cells3 D.moves⟩, _, _, rfl, rfl, Lib.hid ⟨nofun, fun _ => ⟨aa, cc, rfl, rfl⟩, N1, P1_0, N2, P2_0, NH, PH, nofun, fun _ => Sr.call [] [r1, r2] ⟨40, 3, .slice aa D.moves.length cc, D.moves.length, cells3 D.moves⟩ hSr hbc hoc⟩⟩
    refine StepsU.cons ?_ ?_
    · intro Q E0 listed a w' hI hM hk haft K hK
      obtain ⟨b0, b1, b2, b3, b4, b5, b6, b7, b8, b9, b10, b11, b12, b13, b14, x3, x13, x16, x19, hh, r0, r1, r2, hl, ha, HF⟩ := hI
      subst hl; subst ha
      obtain ⟨N0, P0_0, N1, P1_0, N2, P2_0, NH, PH, Z, HS⟩ := HF.out
      clear HF
      have hk' : b6 = false := hk
      subst hk'
      clear hk
      obtain rfl : b7 = false := by cases b7 with | false => rfl | true => exact absurd (hM 7 6 rfl rfl) Bool.false_ne_true
      obtain rfl : b8 = false := by cases b8 with | false => rfl | true => exact absurd (hM 8 7 rfl rfl) Bool.false_ne_true
      obtain rfl : b12 = false := by cases b12 with | false => rfl | true => exact absurd (hM 12 8 rfl rfl) Bool.false_ne_true
      obtain rfl : b14 = false := by cases b14 with | false => rfl | true => exact absurd (hM 14 6 rfl rfl) Bool.false_ne_true
      clear haft
      have hSr := HS rfl
      have hBl := hSr.bel
      obtain ⟨q0, q1, q2, q3⟩ := HK.out w' hBl
      go_simp
      exact hK _ _ ⟨b0, b1, b2, b3, b4, b5, true, false, false, b9, b10, b11, false, b13, false, _, _, _, _, _, _, _, _, rfl, rfl, Lib.hid ⟨N0, P0_0, N1, P1_0, N2, P2_0, NH, PH, nofun, fun _ => hSr⟩⟩
    refine StepsU.cons ?_ ?_
    · intro Q E0 listed a w' hI hM hk haft K hK
      obtain ⟨b0, b1, b2, b3, b4, b5, b6, b7, b8, b9, b10, b11, b12, b13, b14, x3, x13, x16, x19, hh, r0, r1, r2, hl, ha, HF⟩ := hI
      subst hl; subst ha
      obtain ⟨N0, P0_0, N1, P1_0, N2, P2_0, NH, PH, Z, HS⟩ := HF.out
      clear HF
      have hk' : b7 = false := hk
      subst hk'
      clear hk
      obtain rfl : b8 = false := by cases b8 with | false => rfl | true => exact absurd (hM 8 7 rfl rfl) Bool.false_ne_true
      obtain rfl : b12 = false := by cases b12 with | false => rfl | true => exact absurd (hM 12 8 rfl rfl) Bool.false_ne_true
      obtain rfl : b14 = false := by cases b14 with | false => rfl | true => exact absurd (hM 14 7 rfl rfl) Bool.false_ne_true
      obtain rfl : b6 = true := haft ⟨6, .data⟩ (by simp) rfl
      clear haft
      have hSr := HS rfl
      have hBl := hSr.bel
      obtain ⟨q0, q1, q2, q3⟩ := HK.out w' hBl
      go_simp
      exact hK _ _ ⟨b0, b1, b2, b3, b4, b5, true, true, false, b9, b10, b11, false, b13, false, _, _, _, _, _, _, _, _, rfl, rfl, Lib.hid ⟨N0, P0_0, N1, P1_0, N2, P2_0, NH, PH, nofun, fun _ => hSr⟩⟩
    refine StepsU.cons ?_ ?_
    · intro Q E0 listed a w' hI hM hk haft K hK
      obtain ⟨b0, b1, b2, b3, b4, b5, b6, b7, b8, b9, b10, b11, b12, b13, b14, x3, x13, x16, x19, hh, r0, r1, r2, hl, ha, HF⟩ := hI
      subst hl; subst ha
      obtain ⟨N0, P0_0, N1, P1_0, N2, P2_0, NH, PH, Z, HS⟩ := HF.out
      clear HF
      have hk' : b8 = false := hk
      subst hk'
      clear hk
      obtain rfl : b12 = false := by cases b12 with | false => rfl | true => exact absurd (hM 12 8 rfl rfl) Bool.false_ne_true
      obtain rfl : b14 = false := by cases b14 with | false => rfl | true => exact absurd (hM 14 8 rfl rfl) Bool.false_ne_true
      obtain rfl : b7 = true := haft ⟨7, .data⟩ (by simp) rfl
      obtain rfl : b6 = true := hM 7 6 rfl rfl
      clear haft
      have hSr := HS rfl
      have hBl := hSr.bel
      obtain ⟨q0, q1, q2, q3⟩ := HK.out w' hBl
      obtain rfl := N1 rfl
      go_simp
      exact hK _ _ ⟨b0, b1, b2, b3, b4, b5, true, true, true, b9, b10, b11, false, b13, false, _, _, .slice (some ⟨w'.heap.size, 0, none⟩) 1 1, _, _, _, some ⟨3, 1, .slice (some ⟨w'.heap.size, 0, none⟩) 1 1, 1, [.int .i64 D.states]⟩, _, rfl, rfl, Lib.hid ⟨N0, P0_0, nofun, fun _ => ⟨w'.heap.size, 1, rfl, rfl⟩, N2, P2_0, NH, PH, nofun, fun _ => Sr.call [r0] [r2] ⟨3, 1, .slice (some ⟨w'.heap.size, 0, none⟩) 1 1, 1, [.int .i64 D.states]⟩ hSr ((Below.refl _ _).alloc (Nat.le_refl _) _) (ownLit (n := 1) [.int .i64 D.states] (Nat.le_refl _) (by omega) rfl)⟩⟩
    refine StepsU.cons ?_ ?_
    · intro Q E0 listed a w' hI hM hk haft K hK
      obtain ⟨b0, b1, b2, b3, b4, b5, b6, b7, b8, b9, b10, b11, b12, b13, b14, x3, x13, x16, x19, hh, r0, r1, r2, hl, ha, HF⟩ := hI
      subst hl; subst ha
      obtain ⟨N0, P0_0, N1, P1_0, N2, P2_0, NH, PH, Z, HS⟩ := HF.out
      clear HF
      have hk' : b9 = false := hk
      subst hk'
      clear hk
      obtain rfl : b10 = false := by cases b10 with | false => rfl | true => exact absurd (hM 10 9 rfl rfl) Bool.false_ne_true
      obtain rfl : b11 = false := by cases b11 with | false => rfl | true => exact absurd (hM 11 10 rfl rfl) Bool.false_ne_true
      obtain rfl : b12 = false := by cases b12 with | false => rfl | true => exact absurd (hM 12 11 rfl rfl) Bool.false_ne_true
      obtain rfl : b14 = false := by cases b14 with | false => rfl | true => exact absurd (hM 14 9 rfl rfl) Bool.false_ne_true
      clear haft
      have hSr := HS rfl
      have hBl := hSr.bel
      obtain ⟨q0, q1, q2, q3⟩ := HK.out w' hBl
      go_simp
      exact hK _ _ ⟨b0, b1, b2, b3, b4, b5, b6, b7, b8, true, false, false, false, b13, false, _, _, _, _, _, _, _, _, rfl, rfl, Lib.hid ⟨N0, P0_0, N1, P1_0, N2, P2_0, NH, PH, nofun, fun _ => hSr⟩⟩
    refine StepsU.cons ?_ ?_
    · intro Q E0 listed a w' hI hM hk haft K hK
      obtain ⟨b0, b1, b2, b3, b4, b5, b6, b7, b8, b9, b10, b11, b12, b13, b14, x3, x13, x16, x19, hh, r0, r1, r2, hl, ha, HF⟩ := hI
      subst hl; subst ha
      obtain ⟨N0, P0_0, N1, P1_0, N2, P2_0, NH, PH, Z, HS⟩ := HF.out
      clear HF
      have hk' : b10 = false := hk
      subst hk'
      clear hk
      obtain rfl : b11 = false := by cases b11 with | false => rfl | true => exact absurd (hM 11 10 rfl rfl) Bool.false_ne_true
      obtain rfl : b12 = false := by cases b12 with | false => rfl | true => exact absurd (hM 12 11 rfl rfl) Bool.false_ne_true
      obtain rfl : b14 = false := by cases b14 with | false => rfl | true => exact absurd (hM 14 10 rfl rfl) Bool.false_ne_true
      obtain rfl : b9 = true := haft ⟨9, .data⟩ (by simp) rfl
      clear haft
      have hSr := HS rfl
      have hBl := hSr.bel
      obtain ⟨q0, q1, q2, q3⟩ := HK.out w' hBl
      go_simp
      exact hK _ _ ⟨b0, b1, b2, b3, b4, b5, b6, b7, b8, true, true, false, false, b13, false, _, _, _, _, _, _, _, _, rfl, rfl, Lib.hid ⟨N0, P0_0, N1, P1_0, N2, P2_0, NH, PH, nofun, fun _ => hSr⟩⟩
    refine StepsU.cons ?_ ?_
    · intro Q E0 listed a w' hI hM hk haft K hK
      obtain ⟨b0, b1, b2, b3, b4, b5, b6, b7, b8, b9, b10, b11, b12, b13, b14, x3, x13, x16, x19, hh, r0, r1, r2, hl, ha, HF⟩ := hI
      subst hl; subst ha
      obtain ⟨N0, P0_0, N1, P1_0, N2, P2_0, NH, PH, Z, HS⟩ := HF.out
      clear HF
      have hk' : b11 = false := hk
      subst hk'
      clear hk
      obtain rfl : b12 = false := by cases b12 with | false => rfl | true => exact absurd (hM 12 11 rfl rfl) Bool.false_ne_true
      obtain rfl : b14 = false := by cases b14 with | false => rfl | true => exact absurd (hM 14 11 rfl rfl) Bool.false_ne_true
      obtain rfl : b10 = true := haft ⟨10, .data⟩ (by simp) rfl
      obtain rfl : b9 = true := hM 10 9 rfl rfl
      clear haft
      have hSr := HS rfl
      have hBl := hSr.bel
      obtain ⟨q0, q1, q2, q3⟩ := HK.out w' hBl
      obtain rfl := N2 rfl
      go_simp
      exact hK _ _ ⟨b0, b1, b2, b3, b4, b5, b6, b7, b8, true, true, true, false, b13, false, _, _, _, .slice (some ⟨w'.heap.size, 0, none⟩) 1 1, _, _, _, some ⟨3, 1, .slice (some ⟨w'.heap.size, 0, none⟩) 1 1, 1, [.int .i64 D.states]⟩, rfl, rfl, Lib.hid ⟨N0, P0_0, N1, P1_0, nofun, fun _ => ⟨w'.heap.size, 1, rfl, rfl⟩, NH, PH, nofun, fun _ => Sr.call [r0, r1] [] ⟨3, 1, .slice (some ⟨w'.heap.size, 0, none⟩) 1 1, 1, [.int .i64 D.states]⟩ hSr ((Below.refl _ _).alloc (Nat.le_refl _) _) (ownLit (n := 1) [.int .i64 D.states] (Nat.le_refl _) (by omega) rfl)⟩⟩
    refine StepsU.cons ?_ ?_
    · intro Q E0 listed a w' hI hM hk haft K hK
      obtain ⟨b0, b1, b2, b3, b4, b5, b6, b7, b8, b9, b10, b11, b12, b13, b14, x3, x13, x16, x19, hh, r0, r1, r2, hl, ha, HF⟩ := hI
      subst hl; subst ha
      obtain ⟨N0, P0_0, N1, P1_0, N2, P2_0, NH, PH, Z, HS⟩ := HF.out
      clear HF
      have hk' : b12 = false := hk
      subst hk'
      clear hk
      obtain rfl : b14 = false := by cases b14 with | false => rfl | true => exact absurd (hM 14 12 rfl rfl) Bool.false_ne_true
      obtain rfl : b2 = true := haft ⟨2, .data⟩ (by simp) rfl
      obtain rfl : b5 = true := haft ⟨5, .data⟩ (by simp) rfl
      obtain rfl : b8 = true := haft ⟨8, .data⟩ (by simp) rfl
      obtain rfl : b11 = true := haft ⟨11, .data⟩ (by simp) rfl
      obtain rfl : b1 = true := hM 2 1 rfl rfl
      obtain rfl : b4 = true := hM 5 4 rfl rfl
      obtain rfl : b7 = true := hM 8 7 rfl rfl
      obtain rfl : b10 = true := hM 11 10 rfl rfl
      obtain rfl : b0 = true := hM 1 0 rfl rfl
      obtain rfl : b3 = true := hM 4 3 rfl rfl
      obtain rfl : b6 = true := hM 7 6 rfl rfl
      obtain rfl : b9 = true := hM 10 9 rfl rfl
      clear haft
      obtain ⟨g5, c5, rfl, rfl⟩ := P0_0 rfl
      obtain ⟨g8, c8, rfl, rfl⟩ := P1_0 rfl
      obtain ⟨g11, c11, rfl, rfl⟩ := P2_0 rfl
      have hSr := HS rfl
      have hBl := hSr.bel
      obtain ⟨q0, q1, q2, q3⟩ := HK.out w' hBl
      go_simp
      exact hK _ _ ⟨true, true, true, true, true, true, true, true, true, true, true, true, true, b13, false, _, _, _, _, _, _, _, _, rfl, rfl, Lib.hid ⟨N0, fun _ => ⟨_, _, rfl, rfl⟩, N1, fun _ => ⟨_, _, rfl, rfl⟩, N2, fun _ => ⟨_, _, rfl, rfl⟩, NH, PH, nofun, fun _ => hSr⟩⟩
    refine StepsU.cons ?_ ?_
    · intro Q E0 listed a w' hI hM hk haft K hK
      obtain ⟨b0, b1, b2, b3, b4, b5, b6, b7, b8, b9, b10, b11, b12, b13, b14, x3, x13, x16, x19, hh, r0, r1, r2, hl, ha, HF⟩ := hI
      subst hl; subst ha
      obtain ⟨N0, P0_0, N1, P1_0, N2, P2_0, NH, PH, Z, HS⟩ := HF.out
      clear HF
      have hk' : b13 = false := hk
      subst hk'
      clear hk
      obtain rfl : b14 = false := by cases b14 with | false => rfl | true => exact absurd (hM 14 13 rfl rfl) Bool.false_ne_true
      clear haft
      have hSr := HS rfl
      have hBl := hSr.bel
      obtain ⟨q0, q1, q2, q3⟩ := HK.out w' hBl
      obtain rfl := NH rfl
      go_simp
      exact hK _ _ ⟨b0, b1, b2, b3, b4, b5, b6, b7, b8, b9, b10, b11, b12, true, false, .pointer (some ⟨w'.heap.size, 0, none⟩), _, _, _, some (w'.heap.size, .cells #[.int .i64 0, .slice none 0 0, .slice none 0 0, .slice none 0 0] 36 (0, 0)), _, _, _, rfl, rfl, Lib.hid ⟨N0, P0_0, N1, P1_0, N2, P2_0, nofun, fun _ _ => ⟨_, rfl, rfl⟩, nofun, fun _ => hSr.hdr _ _⟩⟩
    refine StepsU.cons ?_ ?_
    · intro Q E0 listed a w' hI hM hk haft K hK
      obtain ⟨b0, b1, b2, b3, b4, b5, b6, b7, b8, b9, b10, b11, b12, b13, b14, x3, x13, x16, x19, hh, r0, r1, r2, hl, ha, HF⟩ := hI
      subst hl; subst ha
      obtain ⟨N0, P0_0, N1, P1_0, N2, P2_0, NH, PH, Z, HS⟩ := HF.out
      clear HF
      have hk' : b14 = false := hk
      subst hk'
      clear hk
      obtain rfl : b12 = true := haft ⟨12, .data⟩ (by simp) rfl
      obtain rfl : b13 = true := haft ⟨13, .data⟩ (by simp) rfl
      obtain rfl : b0 = true := haft ⟨0, .phase⟩ (by simp) rfl
      obtain rfl : b1 = true := haft ⟨1, .phase⟩ (by simp) rfl
      obtain rfl : b2 = true := haft ⟨2, .phase⟩ (by simp) rfl
      obtain rfl : b3 = true := haft ⟨3, .phase⟩ (by simp) rfl
      obtain rfl : b4 = true := haft ⟨4, .phase⟩ (by simp) rfl
      obtain rfl : b5 = true := haft ⟨5, .phase⟩ (by simp) rfl
      obtain rfl : b6 = true := haft ⟨6, .phase⟩ (by simp) rfl
      obtain rfl : b7 = true := haft ⟨7, .phase⟩ (by simp) rfl
      obtain rfl : b8 = true := haft ⟨8, .phase⟩ (by simp) rfl
      obtain rfl : b9 = true := haft ⟨9, .phase⟩ (by simp) rfl
      obtain rfl : b10 = true := haft ⟨10, .phase⟩ (by simp) rfl
      obtain rfl : b11 = true := haft ⟨11, .phase⟩ (by simp) rfl
      clear haft
      obtain ⟨gh, rfl, rfl⟩ := PH rfl rfl
      obtain ⟨g5, c5, rfl, rfl⟩ := P0_0 rfl
      obtain ⟨g8, c8, rfl, rfl⟩ := P1_0 rfl
      obtain ⟨g11, c11, rfl, rfl⟩ := P2_0 rfl
      have hSr := HS rfl
      have hBl := hSr.bel
      obtain ⟨q0, q1, q2, q3⟩ := HK.out w' hBl
      obtain ⟨hh1, hh2, hh3⟩ := hSr.hd _ _ rfl
      obtain ⟨e0, e1, e2, e3⟩ := blk4 hh1
      have g1 := blkFz hh1
      go_simp
      exact hK _ _ ⟨true, true, true, true, true, true, true, true, true, true, true, true, true, true, true, _, _, _, _, _, _, _, _, rfl, rfl, Lib.hid ⟨N0, fun _ => ⟨_, _, rfl, rfl⟩, N1, fun _ => ⟨_, _, rfl, rfl⟩, N2, fun _ => ⟨_, _, rfl, rfl⟩, NH, fun _ => nofun, fun _ => ⟨gh, _, _, _, rfl, by have := hz.out; omega, hSr.nst Hb0.out (D.states + 1) (ms := D.moves) (fs := [D.states]) (es := [D.states]) (.inr (List.mem_cons_self ..)) (List.mem_cons_of_mem _ (List.mem_cons_self ..)) (List.mem_cons_of_mem _ (List.mem_cons_of_mem _ (List.mem_cons_self ..))) (fun b hb => (List.pairwise_cons.1 (List.pairwise_cons.1 hSr.ne).2).1 _ (List.mem_cons_self ..) _ _ b rfl rfl hb), blk_st4 (blkBel hBl k0.out) (by have := hz.out; omega), blk_st4 (blkBel hBl k1.out) (by have := hz.out; omega)⟩, nofun⟩⟩
    exact StepsU.nil
  · intro G0 hG0 listed a w' hI hall
    obtain ⟨b0, b1, b2, b3, b4, b5, b6, b7, b8, b9, b10, b11, b12, b13, b14, x3, x13, x16, x19, hh, r0, r1, r2, hl, ha, HF⟩ := hI
    subst hl; subst ha
    obtain rfl : b0 = true := hall 0 (by decide)
    obtain rfl : b1 = true := hall 1 (by decide)
    obtain rfl : b2 = true := hall 2 (by decide)
    obtain rfl : b3 = true := hall 3 (by decide)
    obtain rfl : b4 = true := hall 4 (by decide)
    obtain rfl : b5 = true := hall 5 (by decide)
    obtain rfl : b6 = true := hall 6 (by decide)
    obtain rfl : b7 = true := hall 7 (by decide)
    obtain rfl : b8 = true := hall 8 (by decide)
    obtain rfl : b9 = true := hall 9 (by decide)
    obtain rfl : b10 = true := hall 10 (by decide)
    obtain rfl : b11 = true := hall 11 (by decide)
    obtain rfl : b12 = true := hall 12 (by decide)
    obtain rfl : b13 = true := hall 13 (by decide)
    obtain rfl : b14 = true := hall 14 (by decide)
    exact hG0 _ _ _ _ _ (HF.out.2.2.2.2.2.2.2.2.1 rfl)
  · intro x3 x13 x16 x19 w' hFin
    obtain ⟨g, vm, vf, ve, rfl, hgw, hs, h0, h1⟩ := hFin
    clear HK
    have HS := Lib.hid hs; have K0 := Lib.hid h0; have K1 := Lib.hid h1; have Hgw := Lib.hid hgw; clear hs h0 h1
    obtain ⟨c0, d1, d2, d3⟩ := blk4 K0.out
    go_wp2_with fail
    clear c0 d1 d2 d3
    replace HS := Lib.hid (show NSt w w' g w.heap.size (D.states + 1) vm vf ve D.moves [D.states] [D.states] from HS.out)
    go_loopw [24] (fun i wr => ∃ (k : Nat) (vm : Value), k ≤ D.firsts.length ∧ i = .int .i64 k ∧ Hid (NSt w wr g w.heap.size (D.states + 1) vm vf ve (D.moves ++ (D.firsts.take k).map (fun t : Int => ((D.states, -1, t) : Int × Int × Int))) [D.states] [D.states]) ∧ Hid (wr.heap[w.heap.size]? = some (.cells #[.int .i64 D.states, .slice a1 D.moves.length c1, .slice a2 D.firsts.length c2, .slice a3 D.ends.length c3] 36 (0, 0))) ∧ Hid (wr.heap[w.heap.size + 1]? = some (.cells #[.int .i64 0, .slice none 0 0, .slice none 0 0, .slice none 0 0] 36 (0, 0)))) (fun i _ => D.firsts.length - (intOf i).toNat)
    case atStart => exact ⟨0, _, by omega, rfl, by rw [List.take_zero, List.map_nil, List.append_nil]; exact HS, K0, K1⟩
    case round =>
      obtain ⟨k, vm, hk, rfl, hs, h0, h1⟩ := hrel
      clear HS K0 K1
      obtain ⟨c0, d1, d2, d3⟩ := blk4 h0.out
      by_cases hlt : k < D.firsts.length
      · obtain ⟨b, off, rfl, m0⟩ := ((H0.out.2.1).stay (kpB hs.out.bel)).at hlt
        have Hst := Lib.hid (map_take_step (fun t : Int => ((D.states, -1, t) : Int × Int × Int)) D.firsts hlt)
        obtain ⟨x, hx⟩ : ∃ x, x = D.firsts[k] := ⟨_, rfl⟩
        rw [← hx] at m0 Hst
        have Hx := Lib.hid (hx ▸ List.getElem_mem hlt : x ∈ D.firsts); clear hx
        obtain ⟨ms, hms⟩ : ∃ ms, ms = D.moves ++ (D.firsts.take k).map (fun t : Int => ((D.states, -1, t) : Int × Int × Int)) := ⟨_, rfl⟩
        have Hms : Hid (D.moves ++ (D.firsts.take (k + 1)).map (fun t : Int => ((D.states, -1, t) : Int × Int × Int)) = ms ++ [(D.states, -1, x)]) := Lib.hid (by rw [hms, Hst.out, List.append_assoc])
        rw [← hms] at hs
        have hml := Lib.hid (show ms.length ≤ 1000000000 from by rw [hms]; simp only [List.length_append, List.length_map, List.length_take]; have := HLN.out; omega)
        clear hms Hst
        obtain ⟨e0, e1, e2, e3⟩ := blk4 hs.out.hd
        go_wp2_with (at_builtin; refine app3 elMove (by decide) rfl (.tmp 29) (.tmp 34) rfl w.heap.size vm ms _ _ _ wr rfl rfl rfl hs.out.mv hml.out hs.out.sz ?_; intro v1 w6 h6 hg6; obtain ⟨a1', n1', ca1', rfl⟩ := h6.out.sl; obtain ⟨f0, f1, f2, f3⟩ := blk4 (hs.out.hdM hg6); have f4 := blkFz (hs.out.hdM hg6) 1)
        have hn := hs.out.addM hg6 h6.out
        have hw0 := blkGrow hg6 h0.out (fun e => ownNe hs.out.mv h0.out (by decide) e.symm)
        have hw1 := blkGrow hg6 h1.out (fun e => ownNe hs.out.mv h1.out (by decide) e.symm)
        go_roundw
        case rel => exact ⟨k + 1, _, by omega, by go_num, by rw [Hms.out]; exact hn, blkSet hw0 (by have := Hgw.out; omega), blkSet hw1 (by have := Hgw.out; omega)⟩
        case measure => simp [intOf]; omega
      · obtain rfl : k = D.firsts.length := by omega
        rw [List.take_length] at hs
        clear c0 d1 d2 d3 hlt hk
        obtain ⟨M1, hM1⟩ : ∃ M1, M1 = D.moves ++ D.firsts.map (fun t : Int => ((D.states, -1, t) : Int × Int × Int)) := ⟨_, rfl⟩
        rw [← hM1] at hs
        have HM1 : Hid (M1.length ≤ 440) := Lib.hid (by rw [hM1]; simp only [List.length_append, List.length_map]; have := HLN.out; omega)
        have HE1 := Lib.hid hM1; clear hM1
        have HS := hs; have K0 := h0; have K1 := h1; clear hs h0 h1
        obtain ⟨c0, d1, d2, d3⟩ := blk4 K0.out
        go_wp2_with fail
        clear c0 d1 d2 d3
        go_loopw [41] (fun i wr => ∃ (k : Nat) (vm : Value), k ≤ D.ends.length ∧ i = .int .i64 k ∧ Hid (NSt w wr g w.heap.size (D.states + 1) vm vf ve (M1 ++ (D.ends.take k).map (fun f : Int => ((f, -1, D.states) : Int × Int × Int))) [D.states] [D.states]) ∧ Hid (wr.heap[w.heap.size]? = some (.cells #[.int .i64 D.states, .slice a1 D.moves.length c1, .slice a2 D.firsts.length c2, .slice a3 D.ends.length c3] 36 (0, 0))) ∧ Hid (wr.heap[w.heap.size + 1]? = some (.cells #[.int .i64 0, .slice none 0 0, .slice none 0 0, .slice none 0 0] 36 (0, 0)))) (fun i _ => D.ends.length - (intOf i).toNat)
        case atStart => exact ⟨0, _, by omega, rfl, by rw [List.take_zero, List.map_nil, List.append_nil]; exact HS, K0, K1⟩
        case round =>
          obtain ⟨k, vm, hk, rfl, hs, h0, h1⟩ := hrel
          clear HS K0 K1
          obtain ⟨c0, d1, d2, d3⟩ := blk4 h0.out
          by_cases hlt : k < D.ends.length
          · obtain ⟨b, off, rfl, m0⟩ := ((H0.out.2.2).stay (kpB hs.out.bel)).at hlt
            have Hst := Lib.hid (map_take_step (fun f : Int => ((f, -1, D.states) : Int × Int × Int)) D.ends hlt)
            obtain ⟨x, hx⟩ : ∃ x, x = D.ends[k] := ⟨_, rfl⟩
            rw [← hx] at m0 Hst
            have Hx := Lib.hid (hx ▸ List.getElem_mem hlt : x ∈ D.ends); clear hx
            obtain ⟨ms, hms⟩ : ∃ ms, ms = M1 ++ (D.ends.take k).map (fun f : Int => ((f, -1, D.states) : Int × Int × Int)) := ⟨_, rfl⟩
            have Hms : Hid (M1 ++ (D.ends.take (k + 1)).map (fun f : Int => ((f, -1, D.states) : Int × Int × Int)) = ms ++ [(x, -1, D.states)]) := Lib.hid (by rw [hms, Hst.out, List.append_assoc])
            rw [← hms] at hs
            have hml := Lib.hid (show ms.length ≤ 1000000000 from by rw [hms]; simp only [List.length_append, List.length_map, List.length_take]; have := HLN.out; have := HM1.out; omega)
            clear hms Hst
            obtain ⟨e0, e1, e2, e3⟩ := blk4 hs.out.hd
            go_wp2_with (at_builtin; refine app3 elMove (by decide) rfl (.tmp 46) (.tmp 51) rfl w.heap.size vm ms _ _ _ wr rfl rfl rfl hs.out.mv hml.out hs.out.sz ?_; intro v1 w6 h6 hg6; obtain ⟨a1', n1', ca1', rfl⟩ := h6.out.sl; obtain ⟨f0, f1, f2, f3⟩ := blk4 (hs.out.hdM hg6); have f4 := blkFz (hs.out.hdM hg6) 1)
            have hn := hs.out.addM hg6 h6.out
            have hw0 := blkGrow hg6 h0.out (fun e => ownNe hs.out.mv h0.out (by decide) e.symm)
            have hw1 := blkGrow hg6 h1.out (fun e => ownNe hs.out.mv h1.out (by decide) e.symm)
            go_roundw
            case rel => exact ⟨k + 1, _, by omega, by go_num, by rw [Hms.out]; exact hn, blkSet hw0 (by have := Hgw.out; omega), blkSet hw1 (by have := Hgw.out; omega)⟩
            case measure => simp [intOf]; omega
          · obtain rfl : k = D.ends.length := by omega
            rw [List.take_length] at hs
            clear c0 d1 d2 d3 hlt hk
            rw [HE1.out] at hs
            obtain ⟨a1', n1', ca1', rfl⟩ := hs.out.mv.sl
            obtain ⟨a2', n2', ca2', rfl⟩ := hs.out.fs.sl
            obtain ⟨a3', n3', ca3', rfl⟩ := hs.out.en.sl
            obtain ⟨e0, e1, e2, e3⟩ := blk4 hs.out.hd
            obtain ⟨f0, f1, f2, f3⟩ := blk4 h1.out
            have g1 := blkFz h1.out
            go_wp2
            refine bodyPost_ret (v := .agg #[.int .i64 (D.states + 1), .slice a1' n1' ca1', .slice a2' n2' ca2', .slice a3' n3' ca3']) (by simp [results, Try.results168, go_sem, f0, f1, f2, f3, g1]) rfl ⟨_, _, _, rfl, ?_, ?_⟩
            · exact bel4 hs.out.bel (by omega) _ _ _ _
            · exact hs.out.o.set4 _ (by omega) h1.out (by decide) _ _ _ _
end Go.Proofs.Ytnjddneelkdmoaa
