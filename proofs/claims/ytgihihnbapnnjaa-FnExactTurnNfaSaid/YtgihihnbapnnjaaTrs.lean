/- Turning an automaton with choices round: the reference's answer. -/
import Derived.Test.YtgihihnbapnnjaaTrn
set_option linter.unusedSimpArgs false
set_option linter.unusedVariables false
set_option linter.unusedSectionVars false
namespace Go.Proofs.Ytgihihnbapnnjaa
open Go.RowKit
set_option maxRecDepth 100000
variable {S T : Nat → Prop}
set_option maxHeartbeats 4000000 in
theorem l10Turn_c (vm vf ve : Value) (D : NfaD) (w : World) (h : NfaR S w vm vf ve D) (hD : okN D) : Calls Try.prog 75 #[.agg #[.int .i64 D.states, vm, vf, ve]] w (RNf w (turnD D)) := by
  obtain ⟨a1, c1, a2, c2, a3, c3, rfl, rfl, rfl, hn1, hn2, hn3⟩ := h.shapes
  obtain ⟨W, hW⟩ : ∃ W, W = (w.alloc (.cells #[.int .i64 D.states, .slice a1 D.moves.length c1, .slice a2 D.firsts.length c2, .slice a3 D.ends.length c3] 46)).alloc (.cells #[.int .i64 0, .slice none 0 0, .slice none 0 0, .slice none 0 0] 46) := ⟨_, rfl⟩
  have Hb0 : Hid (Below w.heap.size w W) := by rw [hW]; exact ((Below.refl _ _).alloc (Nat.le_refl _) _).alloc (by simp) _
  have k0 : Hid (W.heap[w.heap.size]? = some (.cells #[.int .i64 D.states, .slice a1 D.moves.length c1, .slice a2 D.firsts.length c2, .slice a3 D.ends.length c3] 46 (0, 0))) := by rw [hW]; exact blkOld (blkNew _ _ rfl)
  have k1 : Hid (W.heap[w.heap.size + 1]? = some (.cells #[.int .i64 0, .slice none 0 0, .slice none 0 0, .slice none 0 0] 46 (0, 0))) := by rw [hW]; exact blkNew _ _ (by simp)
  have hz : Hid (W.heap.size = w.heap.size + 2) := by rw [hW]; simp [Hid]
  have H0 := Lib.hid h
  have H := Lib.hid (h.stay (kpB Hb0.out)); clear h
  have HD := Lib.hid hD; clear hD
  have HW := Lib.hid hW; clear hW
  go_enter Try.func75, Try.ntmps75
  go_wp2_with fail
  rw [← HW.out]
  clear HW
  have HK : Hid (∀ w', Below W.heap.size W w' → w'.cell? ⟨w.heap.size, 0, none⟩ = some (.int .i64 D.states) ∧ w'.cell? ⟨w.heap.size, 1, none⟩ = some (.slice a1 D.moves.length c1) ∧ w'.cell? ⟨w.heap.size, 2, none⟩ = some (.slice a2 D.firsts.length c2) ∧ w'.cell? ⟨w.heap.size, 3, none⟩ = some (.slice a3 D.ends.length c3)) := fun w' hb => blk4 (blkBel hb k0.out)
  have HLN := Lib.hid (okN_len HD.out)
  refine wp_region_inv2 [(1, 0), (4, 3), (5, 2), (5, 4), (8, 7), (9, 6), (9, 8), (10, 1), (10, 5), (10, 9), (12, 0), (12, 1), (12, 2), (12, 3), (12, 4), (12, 5), (12, 6), (12, 7), (12, 8), (12, 9), (12, 10), (12, 11)] (fun listed a w' => ∃ (b0 b1 b2 b3 b4 b5 b6 b7 b8 b9 b10 b11 b12 : Bool) (x3 x7 x10 x11 x14 : Value) (hh : Option (Nat × Obj)) (r0 r1 : Option Rw), listed = #[b0, b1, b2, b3, b4, b5, b6, b7, b8, b9, b10, b11, b12] ∧ a = { tmps := #[.agg #[.int .i64 D.states, .slice a1 D.moves.length c1, .slice a2 D.firsts.length c2, .slice a3 D.ends.length c3], .pointer (some ⟨w.heap.size, 0, none⟩), .pointer (some ⟨w.heap.size + 1, 0, none⟩), x3, undef, cond b0 (.pointer (some ⟨w.heap.size, 0, none⟩)) (undef), cond b1 (.int .i64 D.states) (undef), x7, cond b3 (.pointer (some ⟨w.heap.size, 3, none⟩)) (undef), cond b4 (.slice a3 D.ends.length c3) (undef), x10, x11, cond b7 (.pointer (some ⟨w.heap.size, 2, none⟩)) (undef), cond b8 (.slice a2 D.firsts.length c2) (undef), x14, cond b10 (.agg #[.int .i64 D.states, .slice none 0 0, x10, x14]) (undef), undef, undef, undef, undef, undef, undef, undef, undef, undef, undef, undef, undef, undef, undef, undef, undef, undef, undef, undef, undef, undef, undef, undef, undef, undef, undef, undef, undef, undef, undef, undef, undef], defers := [] } ∧ Hid ((b2 = false → r0 = none) ∧ (b2 = true → ∃ (g : Nat) (c : Nat), x7 = .slice (some ⟨g, 0, none⟩) (0) c ∧ (b5 = false → r0 = some ⟨3, 1, x7, 0, []⟩)) ∧ (b5 = true → ∃ (g : Nat) (c : Nat), x10 = .slice (some ⟨g, 0, none⟩) (D.ends.length) c ∧ r0 = some ⟨3, 1, x10, D.ends.length, D.ends.map (.int .i64 ·)⟩) ∧ (b6 = false → r1 = none) ∧ (b6 = true → ∃ (g : Nat) (c : Nat), x11 = .slice (some ⟨g, 0, none⟩) (0) c ∧ (b9 = false → r1 = some ⟨3, 1, x11, 0, []⟩)) ∧ (b9 = true → ∃ (g : Nat) (c : Nat), x14 = .slice (some ⟨g, 0, none⟩) (D.firsts.length) c ∧ r1 = some ⟨3, 1, x14, D.firsts.length, D.firsts.map (.int .i64 ·)⟩) ∧ (b11 = false → hh = none) ∧ (b11 = true → b12 = false → ∃ g : Nat, x3 = .pointer (some ⟨g, 0, none⟩) ∧ hh = some (g, .cells #[.int .i64 0, .slice none 0 0, .slice none 0 0, .slice none 0 0] 46 (0, 0))) ∧ (b12 = true → ∃ (g : Nat) (vf ve : Value), x3 = .pointer (some ⟨g, 0, none⟩) ∧ w.heap.size + 1 < g ∧ NSt w w' g w.heap.size D.states (.slice none 0 0) vf ve [] D.ends D.firsts ∧ w'.heap[w.heap.size]? = some (.cells #[.int .i64 D.states, .slice a1 D.moves.length c1, .slice a2 D.firsts.length c2, .slice a3 D.ends.length c3] 46 (0, 0)) ∧ w'.heap[w.heap.size + 1]? = some (.cells #[.int .i64 0, .slice none 0 0, .slice none 0 0, .slice none 0 0] 46 (0, 0))) ∧ (b12 = false → Sr W w' hh [r0, r1]))) (fun G => ∀ (x3 x7 x10 x11 x14 : Value) (w' : World), (∃ (g : Nat) (vf ve : Value), x3 = .pointer (some ⟨g, 0, none⟩) ∧ w.heap.size + 1 < g ∧ NSt w w' g w.heap.size D.states (.slice none 0 0) vf ve [] D.ends D.firsts ∧ w'.heap[w.heap.size]? = some (.cells #[.int .i64 D.states, .slice a1 D.moves.length c1, .slice a2 D.firsts.length c2, .slice a3 D.ends.length c3] 46 (0, 0)) ∧ w'.heap[w.heap.size + 1]? = some (.cells #[.int .i64 0, .slice none 0 0, .slice none 0 0, .slice none 0 0] 46 (0, 0))) → G { tmps := #[.agg #[.int .i64 D.states, .slice a1 D.moves.length c1, .slice a2 D.firsts.length c2, .slice a3 D.ends.length c3], .pointer (some ⟨w.heap.size, 0, none⟩), .pointer (some ⟨w.heap.size + 1, 0, none⟩), x3, undef, .pointer (some ⟨w.heap.size, 0, none⟩), .int .i64 D.states, x7, .pointer (some ⟨w.heap.size, 3, none⟩), .slice a3 D.ends.length c3, x10, x11, .pointer (some ⟨w.heap.size, 2, none⟩), .slice a2 D.firsts.length c2, x14, .agg #[.int .i64 D.states, .slice none 0 0, x10, x14], undef, undef, undef, undef, undef, undef, undef, undef, undef, undef, undef, undef, undef, undef, undef, undef, undef, undef, undef, undef, undef, undef, undef, undef, undef, undef, undef, undef, undef, undef, undef, undef], defers := [] } w') (by kernel_rfl) (by kernel_rfl) (by kernel_rfl) (by kernel_rfl) ?_ ?_ ?_ ?_
  · exact ⟨false, false, false, false, false, false, false, false, false, false, false, false, false, undef, undef, undef, undef, undef, none, none, none, rfl, rfl, Lib.hid ⟨fun _ => rfl, nofun, nofun, fun _ => rfl, nofun, nofun, fun _ => rfl, nofun, nofun, fun _ => Sr.start W 2⟩⟩
  · refine StepsU.cons ?_ ?_
    · intro Q E0 listed a w' hI hM hk haft K hK
      obtain ⟨b0, b1, b2, b3, b4, b5, b6, b7, b8, b9, b10, b11, b12, x3, x7, x10, x11, x14, hh, r0, r1, hl, ha, HF⟩ := hI
      subst hl; subst ha
      obtain ⟨N0, P0_0, P0_1, N1, P1_0, P1_1, NH, PH, Z, HS⟩ := HF.out
      clear HF
      have hk' : b0 = false := hk
      subst hk'
      clear hk
      obtain rfl : b1 = false := by cases b1 with | false => rfl | true => exact absurd (hM 1 0 rfl rfl) Bool.false_ne_true
      obtain rfl : b10 = false := by cases b10 with | false => rfl | true => exact absurd (hM 10 1 rfl rfl) Bool.false_ne_true
      obtain rfl : b12 = false := by cases b12 with | false => rfl | true => exact absurd (hM 12 0 rfl rfl) Bool.false_ne_true
      clear haft
      have hSr := HS rfl
      have hBl := hSr.bel
      obtain ⟨q0, q1, q2, q3⟩ := HK.out w' hBl
      go_simp
      exact hK _ _ ⟨true, false, b2, b3, b4, b5, b6, b7, b8, b9, false, b11, false, _, _, _, _, _, _, _, _, rfl, rfl, Lib.hid ⟨N0, P0_0, P0_1, N1, P1_0, P1_1, NH, PH, nofun, fun _ => hSr⟩⟩
    refine StepsU.cons ?_ ?_
    · intro Q E0 listed a w' hI hM hk haft K hK
      obtain ⟨b0, b1, b2, b3, b4, b5, b6, b7, b8, b9, b10, b11, b12, x3, x7, x10, x11, x14, hh, r0, r1, hl, ha, HF⟩ := hI
      subst hl; subst ha
      obtain ⟨N0, P0_0, P0_1, N1, P1_0, P1_1, NH, PH, Z, HS⟩ := HF.out
      clear HF
      have hk' : b1 = false := hk
      subst hk'
      clear hk
      obtain rfl : b10 = false := by cases b10 with | false => rfl | true => exact absurd (hM 10 1 rfl rfl) Bool.false_ne_true
      obtain rfl : b12 = false := by cases b12 with | false => rfl | true => exact absurd (hM 12 1 rfl rfl) Bool.false_ne_true
      obtain rfl : b0 = true := haft ⟨0, .data⟩ (by simp) rfl
      clear haft
      have hSr := HS rfl
      have hBl := hSr.bel
      obtain ⟨q0, q1, q2, q3⟩ := HK.out w' hBl
      go_simp
      exact hK _ _ ⟨true, true, b2, b3, b4, b5, b6, b7, b8, b9, false, b11, false, _, _, _, _, _, _, _, _, rfl, rfl, Lib.hid ⟨N0, P0_0, P0_1, N1, P1_0, P1_1, NH, PH, nofun, fun _ => hSr⟩⟩
    refine StepsU.cons ?_ ?_
    · intro Q E0 listed a w' hI hM hk haft K hK
      obtain ⟨b0, b1, b2, b3, b4, b5, b6, b7, b8, b9, b10, b11, b12, x3, x7, x10, x11, x14, hh, r0, r1, hl, ha, HF⟩ := hI
      subst hl; subst ha
      obtain ⟨N0, P0_0, P0_1, N1, P1_0, P1_1, NH, PH, Z, HS⟩ := HF.out
      clear HF
      have hk' : b2 = false := hk
      subst hk'
      clear hk
      obtain rfl : b5 = false := by cases b5 with | false => rfl | true => exact absurd (hM 5 2 rfl rfl) Bool.false_ne_true
      obtain rfl : b10 = false := by cases b10 with | false => rfl | true => exact absurd (hM 10 5 rfl rfl) Bool.false_ne_true
      obtain rfl : b12 = false := by cases b12 with | false => rfl | true => exact absurd (hM 12 2 rfl rfl) Bool.false_ne_true
      clear haft
      have hSr := HS rfl
      have hBl := hSr.bel
      obtain ⟨q0, q1, q2, q3⟩ := HK.out w' hBl
      obtain rfl := N0 rfl
      go_simp
      exact hK _ _ ⟨b0, b1, true, b3, b4, false, b6, b7, b8, b9, false, b11, false, _, .slice (some ⟨w'.heap.size, 0, none⟩) 0 0, _, _, _, _, some ⟨3, 1, .slice (some ⟨w'.heap.size, 0, none⟩) 0 0, 0, []⟩, _, rfl, rfl, Lib.hid ⟨nofun, fun _ => ⟨w'.heap.size, 0, rfl, fun _ => rfl⟩, nofun, N1, P1_0, P1_1, NH, PH, nofun, fun _ => Sr.call [] [r1] ⟨3, 1, .slice (some ⟨w'.heap.size, 0, none⟩) 0 0, 0, []⟩ hSr ((Below.refl _ _).alloc (Nat.le_refl _) _) (ownLit (n := 0) [] (Nat.le_refl _) (by omega) rfl)⟩⟩
    refine StepsU.cons ?_ ?_
    · intro Q E0 listed a w' hI hM hk haft K hK
      obtain ⟨b0, b1, b2, b3, b4, b5, b6, b7, b8, b9, b10, b11, b12, x3, x7, x10, x11, x14, hh, r0, r1, hl, ha, HF⟩ := hI
      subst hl; subst ha
      obtain ⟨N0, P0_0, P0_1, N1, P1_0, P1_1, NH, PH, Z, HS⟩ := HF.out
      clear HF
      have hk' : b3 = false := hk
      subst hk'
      clear hk
      obtain rfl : b4 = false := by cases b4 with | false => rfl | true => exact absurd (hM 4 3 rfl rfl) Bool.false_ne_true
      obtain rfl : b5 = false := by cases b5 with | false => rfl | true => exact absurd (hM 5 4 rfl rfl) Bool.false_ne_true
      obtain rfl : b10 = false := by cases b10 with | false => rfl | true => exact absurd (hM 10 5 rfl rfl) Bool.false_ne_true
      obtain rfl : b12 = false := by cases b12 with | false => rfl | true => exact absurd (hM 12 3 rfl rfl) Bool.false_ne_true
      clear haft
      have hSr := HS rfl
      have hBl := hSr.bel
      obtain ⟨q0, q1, q2, q3⟩ := HK.out w' hBl
      go_simp
      exact hK _ _ ⟨b0, b1, b2, true, false, false, b6, b7, b8, b9, false, b11, false, _, _, _, _, _, _, _, _, rfl, rfl, Lib.hid ⟨N0, P0_0, P0_1, N1, P1_0, P1_1, NH, PH, nofun, fun _ => hSr⟩⟩
    refine StepsU.cons ?_ ?_
    · intro Q E0 listed a w' hI hM hk haft K hK
      obtain ⟨b0, b1, b2, b3, b4, b5, b6, b7, b8, b9, b10, b11, b12, x3, x7, x10, x11, x14, hh, r0, r1, hl, ha, HF⟩ := hI
      subst hl; subst ha
      obtain ⟨N0, P0_0, P0_1, N1, P1_0, P1_1, NH, PH, Z, HS⟩ := HF.out
      clear HF
      have hk' : b4 = false := hk
      subst hk'
      clear hk
      obtain rfl : b5 = false := by cases b5 with | false => rfl | true => exact absurd (hM 5 4 rfl rfl) Bool.false_ne_true
      obtain rfl : b10 = false := by cases b10 with | false => rfl | true => exact absurd (hM 10 5 rfl rfl) Bool.false_ne_true
      obtain rfl : b12 = false := by cases b12 with | false => rfl | true => exact absurd (hM 12 4 rfl rfl) Bool.false_ne_true
      obtain rfl : b3 = true := haft ⟨3, .data⟩ (by simp) rfl
      clear haft
      have hSr := HS rfl
      have hBl := hSr.bel
      obtain ⟨q0, q1, q2, q3⟩ := HK.out w' hBl
      go_simp
      exact hK _ _ ⟨b0, b1, b2, true, true, false, b6, b7, b8, b9, false, b11, false, _, _, _, _, _, _, _, _, rfl, rfl, Lib.hid ⟨N0, P0_0, P0_1, N1, P1_0, P1_1, NH, PH, nofun, fun _ => hSr⟩⟩
    refine StepsU.cons ?_ ?_
    · intro Q E0 listed a w' hI hM hk haft K hK
      obtain ⟨b0, b1, b2, b3, b4, b5, b6, b7, b8, b9, b10, b11, b12, x3, x7, x10, x11, x14, hh, r0, r1, hl, ha, HF⟩ := hI
      subst hl; subst ha
      obtain ⟨N0, P0_0, P0_1, N1, P1_0, P1_1, NH, PH, Z, HS⟩ := HF.out
      clear HF
      have hk' : b5 = false := hk
      subst hk'
      clear hk
      obtain rfl : b10 = false := by cases b10 with | false => rfl | true => exact absurd (hM 10 5 rfl rfl) Bool.false_ne_true
      obtain rfl : b12 = false := by cases b12 with | false => rfl | true => exact absurd (hM 12 5 rfl rfl) Bool.false_ne_true
      obtain rfl : b2 = true := haft ⟨2, .data⟩ (by simp) rfl
      obtain rfl : b4 = true := haft ⟨4, .data⟩ (by simp) rfl
      obtain rfl : b3 = true := hM 4 3 rfl rfl
      clear haft
      obtain ⟨g2, c2, rfl, hr2⟩ := P0_0 rfl
      obtain rfl := hr2 rfl
      have hSr := HS rfl
      have hBl := hSr.bel
      obtain ⟨q0, q1, q2, q3⟩ := HK.out w' hBl
      have hrow := hSr.own _ (List.mem_append_right [] (List.mem_cons_self ..))
      refine stepAppX elInt (by decide) rfl (.tmp 7) (.tmp 9) rfl W.heap.size g2 (0) c2 (D.ends.length) _ _ (D.ends.map (.int .i64 ·)) w' rfl rfl hrow ((H.out.2.2).stay (kpB hBl)) (by simp) (by simp [Value.oneCell']) (by have := HLN.out; omega) hBl.size ?_
      intro g' c' w1 hoc hgc hat
      rw [Nat.zero_add] at hoc ⊢
      exact hK _ _ ⟨b0, b1, true, true, true, true, b6, b7, b8, b9, false, b11, false, _, _, .slice (some ⟨g', 0, none⟩) (D.ends.length) c', _, _, _, some ⟨3, 1, .slice (some ⟨g', 0, none⟩) (D.ends.length) c', D.ends.length, D.ends.map (.int .i64 ·)⟩, _, rfl, rfl, Lib.hid ⟨nofun, fun _ => ⟨_, _, rfl, nofun⟩, fun _ => ⟨g', c', rfl, rfl⟩, N1, P1_0, P1_1, NH, PH, nofun, fun _ => Sr.grow [] [r1] ⟨3, 1, .slice (some ⟨g', 0, none⟩) (D.ends.length) c', D.ends.length, D.ends.map (.int .i64 ·)⟩ hSr rfl rfl hgc hoc hat⟩⟩
    refine StepsU.cons ?_ ?_
    · intro Q E0 listed a w' hI hM hk haft K hK
      obtain ⟨b0, b1, b2, b3, b4, b5, b6, b7, b8, b9, b10, b11, b12, x3, x7, x10, x11, x14, hh, r0, r1, hl, ha, HF⟩ := hI
      subst hl; subst ha
      obtain ⟨N0, P0_0, P0_1, N1, P1_0, P1_1, NH, PH, Z, HS⟩ := HF.out
      clear HF
      have hk' : b6 = false := hk
      subst hk'
      clear hk
      obtain rfl : b9 = false := by cases b9 with | false => rfl | true => exact absurd (hM 9 6 rfl rfl) Bool.false_ne_true
      obtain rfl : b10 = false := by cases b10 with | false => rfl | true => exact absurd (hM 10 9 rfl rfl) Bool.false_ne_true
      obtain rfl : b12 = false := by cases b12 with | false => rfl | true => exact absurd (hM 12 6 rfl rfl) Bool.false_ne_true
      clear haft
      have hSr := HS rfl
      have hBl := hSr.bel
      obtain ⟨q0, q1, q2, q3⟩ := HK.out w' hBl
      obtain rfl := N1 rfl
      go_simp
      exact hK _ _ ⟨b0, b1, b2, b3, b4, b5, true, b7, b8, false, false, b11, false, _, _, _, .slice (some ⟨w'.heap.size, 0, none⟩) 0 0, _, _, _, some ⟨3, 1, .slice (some ⟨w'.heap.size, 0, none⟩) 0 0, 0, []⟩, rfl, rfl, Lib.hid ⟨N0, P0_0, P0_1, nofun, fun _ => ⟨w'.heap.size, 0, rfl, fun _ => rfl⟩, nofun, NH, PH, nofun, fun _ => Sr.call [r0] [] ⟨3, 1, .slice (some ⟨w'.heap.size, 0, none⟩) 0 0, 0, []⟩ hSr ((Below.refl _ _).alloc (Nat.le_refl _) _) (ownLit (n := 0) [] (Nat.le_refl _) (by omega) rfl)⟩⟩
    refine StepsU.cons ?_ ?_
    · intro Q E0 listed a w' hI hM hk haft K hK
      obtain ⟨b0, b1, b2, b3, b4, b5, b6, b7, b8, b9, b10, b11, b12, x3, x7, x10, x11, x14, hh, r0, r1, hl, ha, HF⟩ := hI
      subst hl; subst ha
      obtain ⟨N0, P0_0, P0_1, N1, P1_0, P1_1, NH, PH, Z, HS⟩ := HF.out
      clear HF
      have hk' : b7 = false := hk
      subst hk'
      clear hk
      obtain rfl : b8 = false := by cases b8 with | false => rfl | true => exact absurd (hM 8 7 rfl rfl) Bool.false_ne_true
      obtain rfl : b9 = false := by cases b9 with | false => rfl | true => exact absurd (hM 9 8 rfl rfl) Bool.false_ne_true
      obtain rfl : b10 = false := by cases b10 with | false => rfl | true => exact absurd (hM 10 9 rfl rfl) Bool.false_ne_true
      obtain rfl : b12 = false := by cases b12 with | false => rfl | true => exact absurd (hM 12 7 rfl rfl) Bool.false_ne_true
      clear haft
      have hSr := HS rfl
      have hBl := hSr.bel
      obtain ⟨q0, q1, q2, q3⟩ := HK.out w' hBl
      go_simp
      exact hK _ _ ⟨b0, b1, b2, b3, b4, b5, b6, true, false, false, false, b11, false, _, _, _, _, _, _, _, _, rfl, rfl, Lib.hid ⟨N0, P0_0, P0_1, N1, P1_0, P1_1, NH, PH, nofun, fun _ => hSr⟩⟩
    refine StepsU.cons ?_ ?_
    · intro Q E0 listed a w' hI hM hk haft K hK
      obtain ⟨b0, b1, b2, b3, b4, b5, b6, b7, b8, b9, b10, b11, b12, x3, x7, x10, x11, x14, hh, r0, r1, hl, ha, HF⟩ := hI
      subst hl; subst ha
      obtain ⟨N0, P0_0, P0_1, N1, P1_0, P1_1, NH, PH, Z, HS⟩ := HF.out
      clear HF
      have hk' : b8 = false := hk
      subst hk'
      clear hk
      obtain rfl : b9 = false := by cases b9 with | false => rfl | true => exact absurd (hM 9 8 rfl rfl) Bool.false_ne_true
      obtain rfl : b10 = false := by cases b10 with | false => rfl | true => exact absurd (hM 10 9 rfl rfl) Bool.false_ne_true
      obtain rfl : b12 = false := by cases b12 with | false => rfl | true => exact absurd (hM 12 8 rfl rfl) Bool.false_ne_true
      obtain rfl : b7 = true := haft ⟨7, .data⟩ (by simp) rfl
      clear haft
      have hSr := HS rfl
      have hBl := hSr.bel
      obtain ⟨q0, q1, q2, q3⟩ := HK.out w' hBl
      go_simp
      exact hK _ _ ⟨b0, b1, b2, b3, b4, b5, b6, true, true, false, false, b11, false, _, _, _, _, _, _, _, _, rfl, rfl, Lib.hid ⟨N0, P0_0, P0_1, N1, P1_0, P1_1, NH, PH, nofun, fun _ => hSr⟩⟩
    refine StepsU.cons ?_ ?_
    · intro Q E0 listed a w' hI hM hk haft K hK
      obtain ⟨b0, b1, b2, b3, b4, b5, b6, b7, b8, b9, b10, b11, b12, x3, x7, x10, x11, x14, hh, r0, r1, hl, ha, HF⟩ := hI
      subst hl; subst ha
      obtain ⟨N0, P0_0, P0_1, N1, P1_0, P1_1, NH, PH, Z, HS⟩ := HF.out
      clear HF
      have hk' : b9 = false := hk
      subst hk'
      clear hk
      obtain rfl : b10 = false := by cases b10 with | false => rfl | true => exact absurd (hM 10 9 rfl rfl) Bool.false_ne_true
      obtain rfl : b12 = false := by cases b12 with | false => rfl | true => exact absurd (hM 12 9 rfl rfl) Bool.false_ne_true
      obtain rfl : b6 = true := haft ⟨6, .data⟩ (by simp) rfl
      obtain rfl : b8 = true := haft ⟨8, .data⟩ (by simp) rfl
      obtain rfl : b7 = true := hM 8 7 rfl rfl
      clear haft
      obtain ⟨g6, c6, rfl, hr6⟩ := P1_0 rfl
      obtain rfl := hr6 rfl
      have hSr := HS rfl
      have hBl := hSr.bel
      obtain ⟨q0, q1, q2, q3⟩ := HK.out w' hBl
      have hrow := hSr.own _ (List.mem_append_right [r0] (List.mem_cons_self ..))
      refine stepAppX elInt (by decide) rfl (.tmp 11) (.tmp 13) rfl W.heap.size g6 (0) c6 (D.firsts.length) _ _ (D.firsts.map (.int .i64 ·)) w' rfl rfl hrow ((H.out.2.1).stay (kpB hBl)) (by simp) (by simp [Value.oneCell']) (by have := HLN.out; omega) hBl.size ?_
      intro g' c' w1 hoc hgc hat
      rw [Nat.zero_add] at hoc ⊢
      exact hK _ _ ⟨b0, b1, b2, b3, b4, b5, true, true, true, true, false, b11, false, _, _, _, _, .slice (some ⟨g', 0, none⟩) (D.firsts.length) c', _, _, some ⟨3, 1, .slice (some ⟨g', 0, none⟩) (D.firsts.length) c', D.firsts.length, D.firsts.map (.int .i64 ·)⟩, rfl, rfl, Lib.hid ⟨N0, P0_0, P0_1, nofun, fun _ => ⟨_, _, rfl, nofun⟩, fun _ => ⟨g', c', rfl, rfl⟩, NH, PH, nofun, fun _ => Sr.grow [r0] [] ⟨3, 1, .slice (some ⟨g', 0, none⟩) (D.firsts.length) c', D.firsts.length, D.firsts.map (.int .i64 ·)⟩ hSr rfl rfl hgc hoc hat⟩⟩
    refine StepsU.cons ?_ ?_
    · intro Q E0 listed a w' hI hM hk haft K hK
      obtain ⟨b0, b1, b2, b3, b4, b5, b6, b7, b8, b9, b10, b11, b12, x3, x7, x10, x11, x14, hh, r0, r1, hl, ha, HF⟩ := hI
      subst hl; subst ha
      obtain ⟨N0, P0_0, P0_1, N1, P1_0, P1_1, NH, PH, Z, HS⟩ := HF.out
      clear HF
      have hk' : b10 = false := hk
      subst hk'
      clear hk
      obtain rfl : b12 = false := by cases b12 with | false => rfl | true => exact absurd (hM 12 10 rfl rfl) Bool.false_ne_true
      obtain rfl : b1 = true := haft ⟨1, .data⟩ (by simp) rfl
      obtain rfl : b5 = true := haft ⟨5, .data⟩ (by simp) rfl
      obtain rfl : b9 = true := haft ⟨9, .data⟩ (by simp) rfl
      obtain rfl : b0 = true := hM 1 0 rfl rfl
      obtain rfl : b2 = true := hM 5 2 rfl rfl
      obtain rfl : b4 = true := hM 5 4 rfl rfl
      obtain rfl : b6 = true := hM 9 6 rfl rfl
      obtain rfl : b8 = true := hM 9 8 rfl rfl
      obtain rfl : b3 = true := hM 4 3 rfl rfl
      obtain rfl : b7 = true := hM 8 7 rfl rfl
      clear haft
      obtain ⟨g5, c5, rfl, rfl⟩ := P0_1 rfl
      obtain ⟨g9, c9, rfl, rfl⟩ := P1_1 rfl
      have hSr := HS rfl
      have hBl := hSr.bel
      obtain ⟨q0, q1, q2, q3⟩ := HK.out w' hBl
      go_simp
      exact hK _ _ ⟨true, true, true, true, true, true, true, true, true, true, true, b11, false, _, _, _, _, _, _, _, _, rfl, rfl, Lib.hid ⟨N0, P0_0, fun _ => ⟨_, _, rfl, rfl⟩, N1, P1_0, fun _ => ⟨_, _, rfl, rfl⟩, NH, PH, nofun, fun _ => hSr⟩⟩
    refine StepsU.cons ?_ ?_
    · intro Q E0 listed a w' hI hM hk haft K hK
      obtain ⟨b0, b1, b2, b3, b4, b5, b6, b7, b8, b9, b10, b11, b12, x3, x7, x10, x11, x14, hh, r0, r1, hl, ha, HF⟩ := hI
      subst hl; subst ha
      obtain ⟨N0, P0_0, P0_1, N1, P1_0, P1_1, NH, PH, Z, HS⟩ := HF.out
      clear HF
      have hk' : b11 = false := hk
      subst hk'
      clear hk
      obtain rfl : b12 = false := by cases b12 with | false => rfl | true => exact absurd (hM 12 11 rfl rfl) Bool.false_ne_true
      clear haft
      have hSr := HS rfl
      have hBl := hSr.bel
      obtain ⟨q0, q1, q2, q3⟩ := HK.out w' hBl
      obtain rfl := NH rfl
      go_simp
      exact hK _ _ ⟨b0, b1, b2, b3, b4, b5, b6, b7, b8, b9, b10, true, false, .pointer (some ⟨w'.heap.size, 0, none⟩), _, _, _, _, some (w'.heap.size, .cells #[.int .i64 0, .slice none 0 0, .slice none 0 0, .slice none 0 0] 46 (0, 0)), _, _, rfl, rfl, Lib.hid ⟨N0, P0_0, P0_1, N1, P1_0, P1_1, nofun, fun _ _ => ⟨_, rfl, rfl⟩, nofun, fun _ => hSr.hdr _ _⟩⟩
    refine StepsU.cons ?_ ?_
    · intro Q E0 listed a w' hI hM hk haft K hK
      obtain ⟨b0, b1, b2, b3, b4, b5, b6, b7, b8, b9, b10, b11, b12, x3, x7, x10, x11, x14, hh, r0, r1, hl, ha, HF⟩ := hI
      subst hl; subst ha
      obtain ⟨N0, P0_0, P0_1, N1, P1_0, P1_1, NH, PH, Z, HS⟩ := HF.out
      clear HF
      have hk' : b12 = false := hk
      subst hk'
      clear hk
      obtain rfl : b10 = true := haft ⟨10, .data⟩ (by simp) rfl
      obtain rfl : b11 = true := haft ⟨11, .data⟩ (by simp) rfl
      obtain rfl : b0 = true := haft ⟨0, .phase⟩ (by simp) rfl
      obtain rfl : b1 = true := haft ⟨1, .phase⟩ (by simp) rfl
      obtain rfl : b2 = true := haft ⟨2, .phase⟩ (by simp) rfl
      obtain rfl : b3 = true := haft ⟨3, .phase⟩ (by simp) rfl
      obtain rfl : b4 = true := haft ⟨4, .phase⟩ (by simp) rfl
      obtain rfl : b5 = true := haft ⟨5, .phase⟩ (by simp) rfl
      obtain rfl : b6 = true := haft ⟨6, .phase⟩ (by simp) rfl
      obtain rfl : b7 = true := haft ⟨7, .phase⟩ (by simp) rfl
      obtain rfl : b8 = true := haft ⟨8, .phase⟩ (by simp) rfl
      obtain rfl : b9 = true := haft ⟨9, .phase⟩ (by simp) rfl
      clear haft
      obtain ⟨gh, rfl, rfl⟩ := PH rfl rfl
      obtain ⟨g5, c5, rfl, rfl⟩ := P0_1 rfl
      obtain ⟨g9, c9, rfl, rfl⟩ := P1_1 rfl
      have hSr := HS rfl
      have hBl := hSr.bel
      obtain ⟨q0, q1, q2, q3⟩ := HK.out w' hBl
      obtain ⟨hh1, hh2, hh3⟩ := hSr.hd _ _ rfl
      obtain ⟨e0, e1, e2, e3⟩ := blk4 hh1
      have g1 := blkFz hh1
      go_simp
      exact hK _ _ ⟨true, true, true, true, true, true, true, true, true, true, true, true, true, _, _, _, _, _, _, _, _, rfl, rfl, Lib.hid ⟨N0, P0_0, fun _ => ⟨_, _, rfl, rfl⟩, N1, P1_0, fun _ => ⟨_, _, rfl, rfl⟩, NH, fun _ => nofun, fun _ => ⟨gh, _, _, rfl, by have := hz.out; omega, hSr.nst Hb0.out D.states (vm := .slice none 0 0) (ms := []) (fs := D.ends) (es := D.firsts) (.inl ⟨rfl, rfl⟩) (List.mem_cons_self ..) (List.mem_cons_of_mem _ (List.mem_cons_self ..)) (fun b hb => (List.pairwise_cons.1 hSr.ne).1 _ (List.mem_cons_self ..) _ _ b rfl rfl hb), blk_st4 (blkBel hBl k0.out) (by have := hz.out; omega), blk_st4 (blkBel hBl k1.out) (by have := hz.out; omega)⟩, nofun⟩⟩
    exact StepsU.nil
  · intro G0 hG0 listed a w' hI hall
    obtain ⟨b0, b1, b2, b3, b4, b5, b6, b7, b8, b9, b10, b11, b12, x3, x7, x10, x11, x14, hh, r0, r1, hl, ha, HF⟩ := hI
    subst hl; subst ha
    obtain rfl : b0 = true := hall 0 (by decide)
    obtain rfl : b1 = true := hall 1 (by decide)
    obtain rfl : b2 = true := hall 2 (by decide)
    obtain rfl : b3 = true := hall 3 (by decide)
    obtain rfl : b4 = true := hall 4 (by decide)
    obtain rfl : b5 = true := hall 5 (by decide)
    obtain rfl : b6 = true := hall 6 (by decide)
    obtain rfl : b7 = true := hall 7 (by decide)
    obtain rfl : b8 = true := hall 8 (by decide)
    obtain rfl : b9 = true := hall 9 (by decide)
    obtain rfl : b10 = true := hall 10 (by decide)
    obtain rfl : b11 = true := hall 11 (by decide)
    obtain rfl : b12 = true := hall 12 (by decide)
    exact hG0 _ _ _ _ _ _ (HF.out.2.2.2.2.2.2.2.2.1 rfl)
  · intro x3 x7 x10 x11 x14 w' hFin
    obtain ⟨g, vf, ve, rfl, hgw, hs, h0, h1⟩ := hFin
    clear HK
    have HS := Lib.hid hs; have K0 := Lib.hid h0; have K1 := Lib.hid h1; have Hgw := Lib.hid hgw; clear hs h0 h1 hgw
    go_wp2_with fail
    go_loopw [4] (fun i wr => ∃ (k : Nat) (vm : Value), k ≤ D.moves.length ∧ i = .int .i64 k ∧ Hid (NSt w wr g w.heap.size D.states vm vf ve ((D.moves.take k).map trn) D.ends D.firsts) ∧ Hid (wr.heap[w.heap.size]? = some (.cells #[.int .i64 D.states, .slice a1 D.moves.length c1, .slice a2 D.firsts.length c2, .slice a3 D.ends.length c3] 46 (0, 0))) ∧ Hid (wr.heap[w.heap.size + 1]? = some (.cells #[.int .i64 0, .slice none 0 0, .slice none 0 0, .slice none 0 0] 46 (0, 0)))) (fun i _ => D.moves.length - (intOf i).toNat)
    case atStart => exact ⟨0, _, by omega, rfl, HS, K0, K1⟩
    case round =>
      obtain ⟨k, vm, hk, rfl, hs, h0, h1⟩ := hrel
      clear HS K0 K1
      obtain ⟨c0, d1, d2, d3⟩ := blk4 h0.out
      by_cases hlt : k < D.moves.length
      · obtain ⟨b, off, rfl, m0, m1, m2⟩ := (H0.out.stay (kpB hs.out.bel)).1.at hlt
        have Hst := Lib.hid (map_take_step trn D.moves hlt)
        obtain ⟨x, y, z, hxy⟩ : ∃ x y z, D.moves[k] = (x, y, z) := ⟨_, _, _, rfl⟩
        rw [hxy] at m0 m1 m2 Hst
        clear hxy
        obtain ⟨ms, hms⟩ : ∃ ms, ms = (D.moves.take k).map trn := ⟨_, rfl⟩
        rw [← hms] at hs Hst
        have hml := Lib.hid (show ms.length ≤ 1000000000 from by rw [hms, List.length_map, List.length_take]; have := HLN.out; omega)
        clear hms
        obtain ⟨am, cm, hvm, _⟩ := hs.out.mv.shape
        obtain ⟨nm, hnm⟩ : ∃ nm, nm = ms.length := ⟨_, rfl⟩
        rw [← hnm] at hvm
        have Hnm := Lib.hid hnm; clear hnm
        subst hvm
        have hltI : (k : Int) < (D.moves.length : Int) := by omega
        have hk0 : (0 : Int) ≤ (k : Int) := Int.natCast_nonneg _
        obtain ⟨e0, e1, e2, e3⟩ := blk4 hs.out.hd
        have HXD := Lib.hid (hs.out.stay (Below.refl _ _).drew)
        have h02 : Hid (wr.drew.heap[w.heap.size]? = _) := h0
        have h12 : Hid (wr.drew.heap[w.heap.size + 1]? = _) := h1
        have d1D : wr.drew.cell? ⟨w.heap.size, 1, none⟩ = _ := d1
        have e1D : wr.drew.cell? ⟨g, 1, none⟩ = _ := e1
        have m0D : wr.drew.cell? ⟨b, off + k * 3, none⟩ = _ := m0
        have m1D : wr.drew.cell? ⟨b, off + k * 3 + 1, none⟩ = _ := m1
        have m2D : wr.drew.cell? ⟨b, off + k * 3 + 2, none⟩ = _ := m2
        go_wp2_with fail
        refine wp_region_inv2 [(1, 0), (3, 2), (5, 3), (5, 4), (6, 5), (7, 6), (9, 8), (11, 9), (11, 10), (12, 11), (13, 12), (15, 14), (17, 15), (17, 16), (18, 17), (19, 18), (20, 7), (20, 13), (20, 19), (21, 20), (22, 1), (22, 21), (24, 22), (24, 23)] (fun listed a w' => ∃ (b0 b1 b2 b3 b4 b5 b6 b7 b8 b9 b10 b11 b12 b13 b14 b15 b16 b17 b18 b19 b20 b21 b22 b23 b24 : Bool) (x44 x45 : Value), listed = #[b0, b1, b2, b3, b4, b5, b6, b7, b8, b9, b10, b11, b12, b13, b14, b15, b16, b17, b18, b19, b20, b21, b22, b23, b24] ∧ a = { tmps := #[Value.agg #[Value.int IntKind.i64 D.states, Value.slice (some { block := b, off := off }) D.moves.length c1, Value.slice a2 D.firsts.length c2, Value.slice a3 D.ends.length c3], Value.pointer (some { block := w.heap.size, off := 0 }), Value.pointer (some { block := w.heap.size + 1, off := 0 }), Value.pointer (some { block := g, off := 0 }), Value.int IntKind.i64 ↑k, Value.pointer (some { block := w.heap.size, off := 0 }), Value.int IntKind.i64 D.states, x7, Value.pointer (some { block := w.heap.size, off := 3 }), Value.slice a3 D.ends.length c3, x10, x11, Value.pointer (some { block := w.heap.size, off := 2 }), Value.slice a2 D.firsts.length c2, x14, Value.agg #[Value.int IntKind.i64 D.states, Value.slice none 0 0, x10, x14], Value.int IntKind.i64 ↑k, Value.pointer (some { block := w.heap.size, off := 1 }), Value.slice (some { block := b, off := off }) D.moves.length c1, Value.int IntKind.i64 ↑D.moves.length, Value.bool true, u21, u22, cond b0 (.pointer (some ⟨g, 1, none⟩)) (u23), cond b1 (.slice am nm cm) (u24), cond b2 (.pointer (some ⟨w.heap.size, 1, none⟩)) (u25), cond b3 (.slice (some ⟨b, off, none⟩) D.moves.length c1) (u26), cond b4 (.int .i64 k) (u27), cond b5 (.pointer (some ⟨b, off + k * 3, none⟩)) (u28), cond b6 (.pointer (some ⟨b, off + k * 3 + 2, none⟩)) (u29), cond b7 (.int .i64 z) (u30), cond b8 (.pointer (some ⟨w.heap.size, 1, none⟩)) (u31), cond b9 (.slice (some ⟨b, off, none⟩) D.moves.length c1) (u32), cond b10 (.int .i64 k) (u33), cond b11 (.pointer (some ⟨b, off + k * 3, none⟩)) (u34), cond b12 (.pointer (some ⟨b, off + k * 3 + 1, none⟩)) (u35), cond b13 (.int .i64 y) (u36), cond b14 (.pointer (some ⟨w.heap.size, 1, none⟩)) (u37), cond b15 (.slice (some ⟨b, off, none⟩) D.moves.length c1) (u38), cond b16 (.int .i64 k) (u39), cond b17 (.pointer (some ⟨b, off + k * 3, none⟩)) (u40), cond b18 (.pointer (some ⟨b, off + k * 3, none⟩)) (u41), cond b19 (.int .i64 x) (u42), cond b20 (.agg #[.int .i64 z, .int .i64 y, .int .i64 x]) (u43), x44, x45, cond b23 (.pointer (some ⟨g, 1, none⟩)) (u46), undef], defers := [] } ∧ Hid ((b21 = false → w' = wr.drew) ∧ (b21 = true → b22 = false → (w' = (wr.drew.alloc (.cells #[.int .i64 z, .int .i64 y, .int .i64 x] 89)) ∧ x44 = .slice (some ⟨wr.heap.size, 0, none⟩) 1 1)) ∧ (b22 = true → b24 = false → (∃ (g7 : Nat) (cap7 : Nat), x45 = .slice (some ⟨g7, 0, none⟩) (ms.length + 1) cap7 ∧ Own3 w' w.heap.size 89 (.slice (some ⟨g7, 0, none⟩) (ms.length + 1) cap7) (ms ++ [(z, y, x)]) ∧ wr.drew.grownBy w' (Value.slice am nm cm).ownBlock)) ∧ (b24 = true → (∃ vm', NSt w w' g w.heap.size D.states vm' vf ve (ms ++ [(z, y, x)]) D.ends D.firsts ∧ w'.heap[w.heap.size]? = some (.cells #[.int .i64 D.states, .slice (some ⟨b, off, none⟩) D.moves.length c1, .slice a2 D.firsts.length c2, .slice a3 D.ends.length c3] 46 (0, 0)) ∧ w'.heap[w.heap.size + 1]? = some (.cells #[.int .i64 0, .slice none 0 0, .slice none 0 0, .slice none 0 0] 46 (0, 0)))))) (fun G => ∀ (x44 x45 : Value) (w' : World), ((∃ vm', NSt w w' g w.heap.size D.states vm' vf ve (ms ++ [(z, y, x)]) D.ends D.firsts ∧ w'.heap[w.heap.size]? = some (.cells #[.int .i64 D.states, .slice (some ⟨b, off, none⟩) D.moves.length c1, .slice a2 D.firsts.length c2, .slice a3 D.ends.length c3] 46 (0, 0)) ∧ w'.heap[w.heap.size + 1]? = some (.cells #[.int .i64 0, .slice none 0 0, .slice none 0 0, .slice none 0 0] 46 (0, 0)))) → G { tmps := #[Value.agg #[Value.int IntKind.i64 D.states, Value.slice (some { block := b, off := off }) D.moves.length c1, Value.slice a2 D.firsts.length c2, Value.slice a3 D.ends.length c3], Value.pointer (some { block := w.heap.size, off := 0 }), Value.pointer (some { block := w.heap.size + 1, off := 0 }), Value.pointer (some { block := g, off := 0 }), Value.int IntKind.i64 ↑k, Value.pointer (some { block := w.heap.size, off := 0 }), Value.int IntKind.i64 D.states, x7, Value.pointer (some { block := w.heap.size, off := 3 }), Value.slice a3 D.ends.length c3, x10, x11, Value.pointer (some { block := w.heap.size, off := 2 }), Value.slice a2 D.firsts.length c2, x14, Value.agg #[Value.int IntKind.i64 D.states, Value.slice none 0 0, x10, x14], Value.int IntKind.i64 ↑k, Value.pointer (some { block := w.heap.size, off := 1 }), Value.slice (some { block := b, off := off }) D.moves.length c1, Value.int IntKind.i64 ↑D.moves.length, Value.bool true, u21, u22, .pointer (some ⟨g, 1, none⟩), .slice am nm cm, .pointer (some ⟨w.heap.size, 1, none⟩), .slice (some ⟨b, off, none⟩) D.moves.length c1, .int .i64 k, .pointer (some ⟨b, off + k * 3, none⟩), .pointer (some ⟨b, off + k * 3 + 2, none⟩), .int .i64 z, .pointer (some ⟨w.heap.size, 1, none⟩), .slice (some ⟨b, off, none⟩) D.moves.length c1, .int .i64 k, .pointer (some ⟨b, off + k * 3, none⟩), .pointer (some ⟨b, off + k * 3 + 1, none⟩), .int .i64 y, .pointer (some ⟨w.heap.size, 1, none⟩), .slice (some ⟨b, off, none⟩) D.moves.length c1, .int .i64 k, .pointer (some ⟨b, off + k * 3, none⟩), .pointer (some ⟨b, off + k * 3, none⟩), .int .i64 x, .agg #[.int .i64 z, .int .i64 y, .int .i64 x], x44, x45, .pointer (some ⟨g, 1, none⟩), undef], defers := [] } w') (by kernel_rfl) (by kernel_rfl) (by kernel_rfl) (by kernel_rfl) ?_ ?_ ?_ ?_
        · exact ⟨false, false, false, false, false, false, false, false, false, false, false, false, false, false, false, false, false, false, false, false, false, false, false, false, false, u44, u45, rfl, rfl, Lib.hid ⟨fun _ => rfl, nofun, nofun, nofun⟩⟩
        · refine StepsU.cons ?_ ?_
          · intro Q E0 listed a w' hI hM hk haft K hK
            obtain ⟨b0, b1, b2, b3, b4, b5, b6, b7, b8, b9, b10, b11, b12, b13, b14, b15, b16, b17, b18, b19, b20, b21, b22, b23, b24, x44, x45, hl, ha, HF⟩ := hI
            subst hl; subst ha
            obtain ⟨G, G21, G22, G24⟩ := HF.out
            clear HF
            have hk' : b0 = false := hk
            subst hk'
            clear hk
            obtain rfl : b1 = false := by cases b1 with | false => rfl | true => exact absurd (hM 1 0 rfl rfl) Bool.false_ne_true
            obtain rfl : b22 = false := by cases b22 with | false => rfl | true => exact absurd (hM 22 1 rfl rfl) Bool.false_ne_true
            obtain rfl : b24 = false := by cases b24 with | false => rfl | true => exact absurd (hM 24 22 rfl rfl) Bool.false_ne_true
            clear haft
            go_simp
            exact hK _ _ ⟨true, false, b2, b3, b4, b5, b6, b7, b8, b9, b10, b11, b12, b13, b14, b15, b16, b17, b18, b19, b20, b21, false, b23, false, _, _, rfl, rfl, Lib.hid ⟨G, G21, nofun, nofun⟩⟩
          refine StepsU.cons ?_ ?_
          · intro Q E0 listed a w' hI hM hk haft K hK
            obtain ⟨b0, b1, b2, b3, b4, b5, b6, b7, b8, b9, b10, b11, b12, b13, b14, b15, b16, b17, b18, b19, b20, b21, b22, b23, b24, x44, x45, hl, ha, HF⟩ := hI
            subst hl; subst ha
            obtain ⟨G, G21, G22, G24⟩ := HF.out
            clear HF
            have hk' : b1 = false := hk
            subst hk'
            clear hk
            obtain rfl : b22 = false := by cases b22 with | false => rfl | true => exact absurd (hM 22 1 rfl rfl) Bool.false_ne_true
            obtain rfl : b24 = false := by cases b24 with | false => rfl | true => exact absurd (hM 24 22 rfl rfl) Bool.false_ne_true
            obtain rfl : b0 = true := haft ⟨0, .data⟩ (by simp) rfl
            clear haft
            have e1W : w'.cell? ⟨g, 1, none⟩ = some (.slice am nm cm) := by cases b21 with | false => (rw [G rfl]; exact e1D) | true => (rw [(G21 rfl rfl).1]; exact kpAlloc (S := fun _ => True) _ _ trivial e1D)
            go_simp
            exact hK _ _ ⟨true, true, b2, b3, b4, b5, b6, b7, b8, b9, b10, b11, b12, b13, b14, b15, b16, b17, b18, b19, b20, b21, false, b23, false, _, _, rfl, rfl, Lib.hid ⟨G, G21, nofun, nofun⟩⟩
          refine StepsU.cons ?_ ?_
          · intro Q E0 listed a w' hI hM hk haft K hK
            obtain ⟨b0, b1, b2, b3, b4, b5, b6, b7, b8, b9, b10, b11, b12, b13, b14, b15, b16, b17, b18, b19, b20, b21, b22, b23, b24, x44, x45, hl, ha, HF⟩ := hI
            subst hl; subst ha
            obtain ⟨G, G21, G22, G24⟩ := HF.out
            clear HF
            have hk' : b2 = false := hk
            subst hk'
            clear hk
            obtain rfl : b3 = false := by cases b3 with | false => rfl | true => exact absurd (hM 3 2 rfl rfl) Bool.false_ne_true
            obtain rfl : b5 = false := by cases b5 with | false => rfl | true => exact absurd (hM 5 3 rfl rfl) Bool.false_ne_true
            obtain rfl : b6 = false := by cases b6 with | false => rfl | true => exact absurd (hM 6 5 rfl rfl) Bool.false_ne_true
            obtain rfl : b7 = false := by cases b7 with | false => rfl | true => exact absurd (hM 7 6 rfl rfl) Bool.false_ne_true
            obtain rfl : b20 = false := by cases b20 with | false => rfl | true => exact absurd (hM 20 7 rfl rfl) Bool.false_ne_true
            obtain rfl : b21 = false := by cases b21 with | false => rfl | true => exact absurd (hM 21 20 rfl rfl) Bool.false_ne_true
            obtain rfl : b22 = false := by cases b22 with | false => rfl | true => exact absurd (hM 22 21 rfl rfl) Bool.false_ne_true
            obtain rfl : b24 = false := by cases b24 with | false => rfl | true => exact absurd (hM 24 22 rfl rfl) Bool.false_ne_true
            clear haft
            obtain rfl := G rfl
            go_simp
            exact hK _ _ ⟨b0, b1, true, false, b4, false, false, false, b8, b9, b10, b11, b12, b13, b14, b15, b16, b17, b18, b19, false, false, false, b23, false, _, _, rfl, rfl, Lib.hid ⟨fun _ => rfl, nofun, nofun, nofun⟩⟩
          refine StepsU.cons ?_ ?_
          · intro Q E0 listed a w' hI hM hk haft K hK
            obtain ⟨b0, b1, b2, b3, b4, b5, b6, b7, b8, b9, b10, b11, b12, b13, b14, b15, b16, b17, b18, b19, b20, b21, b22, b23, b24, x44, x45, hl, ha, HF⟩ := hI
            subst hl; subst ha
            obtain ⟨G, G21, G22, G24⟩ := HF.out
            clear HF
            have hk' : b3 = false := hk
            subst hk'
            clear hk
            obtain rfl : b5 = false := by cases b5 with | false => rfl | true => exact absurd (hM 5 3 rfl rfl) Bool.false_ne_true
            obtain rfl : b6 = false := by cases b6 with | false => rfl | true => exact absurd (hM 6 5 rfl rfl) Bool.false_ne_true
            obtain rfl : b7 = false := by cases b7 with | false => rfl | true => exact absurd (hM 7 6 rfl rfl) Bool.false_ne_true
            obtain rfl : b20 = false := by cases b20 with | false => rfl | true => exact absurd (hM 20 7 rfl rfl) Bool.false_ne_true
            obtain rfl : b21 = false := by cases b21 with | false => rfl | true => exact absurd (hM 21 20 rfl rfl) Bool.false_ne_true
            obtain rfl : b22 = false := by cases b22 with | false => rfl | true => exact absurd (hM 22 21 rfl rfl) Bool.false_ne_true
            obtain rfl : b24 = false := by cases b24 with | false => rfl | true => exact absurd (hM 24 22 rfl rfl) Bool.false_ne_true
            obtain rfl : b2 = true := haft ⟨2, .data⟩ (by simp) rfl
            clear haft
            obtain rfl := G rfl
            go_simp
            exact hK _ _ ⟨b0, b1, true, true, b4, false, false, false, b8, b9, b10, b11, b12, b13, b14, b15, b16, b17, b18, b19, false, false, false, b23, false, _, _, rfl, rfl, Lib.hid ⟨fun _ => rfl, nofun, nofun, nofun⟩⟩
          refine StepsU.cons ?_ ?_
          · intro Q E0 listed a w' hI hM hk haft K hK
            obtain ⟨b0, b1, b2, b3, b4, b5, b6, b7, b8, b9, b10, b11, b12, b13, b14, b15, b16, b17, b18, b19, b20, b21, b22, b23, b24, x44, x45, hl, ha, HF⟩ := hI
            subst hl; subst ha
            obtain ⟨G, G21, G22, G24⟩ := HF.out
            clear HF
            have hk' : b4 = false := hk
            subst hk'
            clear hk
            obtain rfl : b5 = false := by cases b5 with | false => rfl | true => exact absurd (hM 5 4 rfl rfl) Bool.false_ne_true
            obtain rfl : b6 = false := by cases b6 with | false => rfl | true => exact absurd (hM 6 5 rfl rfl) Bool.false_ne_true
            obtain rfl : b7 = false := by cases b7 with | false => rfl | true => exact absurd (hM 7 6 rfl rfl) Bool.false_ne_true
            obtain rfl : b20 = false := by cases b20 with | false => rfl | true => exact absurd (hM 20 7 rfl rfl) Bool.false_ne_true
            obtain rfl : b21 = false := by cases b21 with | false => rfl | true => exact absurd (hM 21 20 rfl rfl) Bool.false_ne_true
            obtain rfl : b22 = false := by cases b22 with | false => rfl | true => exact absurd (hM 22 21 rfl rfl) Bool.false_ne_true
            obtain rfl : b24 = false := by cases b24 with | false => rfl | true => exact absurd (hM 24 22 rfl rfl) Bool.false_ne_true
            clear haft
            obtain rfl := G rfl
            go_simp
            exact hK _ _ ⟨b0, b1, b2, b3, true, false, false, false, b8, b9, b10, b11, b12, b13, b14, b15, b16, b17, b18, b19, false, false, false, b23, false, _, _, rfl, rfl, Lib.hid ⟨fun _ => rfl, nofun, nofun, nofun⟩⟩
          refine StepsU.cons ?_ ?_
          · intro Q E0 listed a w' hI hM hk haft K hK
            obtain ⟨b0, b1, b2, b3, b4, b5, b6, b7, b8, b9, b10, b11, b12, b13, b14, b15, b16, b17, b18, b19, b20, b21, b22, b23, b24, x44, x45, hl, ha, HF⟩ := hI
            subst hl; subst ha
            obtain ⟨G, G21, G22, G24⟩ := HF.out
            clear HF
            have hk' : b5 = false := hk
            subst hk'
            clear hk
            obtain rfl : b6 = false := by cases b6 with | false => rfl | true => exact absurd (hM 6 5 rfl rfl) Bool.false_ne_true
            obtain rfl : b7 = false := by cases b7 with | false => rfl | true => exact absurd (hM 7 6 rfl rfl) Bool.false_ne_true
            obtain rfl : b20 = false := by cases b20 with | false => rfl | true => exact absurd (hM 20 7 rfl rfl) Bool.false_ne_true
            obtain rfl : b21 = false := by cases b21 with | false => rfl | true => exact absurd (hM 21 20 rfl rfl) Bool.false_ne_true
            obtain rfl : b22 = false := by cases b22 with | false => rfl | true => exact absurd (hM 22 21 rfl rfl) Bool.false_ne_true
            obtain rfl : b24 = false := by cases b24 with | false => rfl | true => exact absurd (hM 24 22 rfl rfl) Bool.false_ne_true
            obtain rfl : b3 = true := haft ⟨3, .data⟩ (by simp) rfl
            obtain rfl : b4 = true := haft ⟨4, .data⟩ (by simp) rfl
            obtain rfl : b2 = true := hM 3 2 rfl rfl
            clear haft
            obtain rfl := G rfl
            go_simp
            exact hK _ _ ⟨b0, b1, true, true, true, true, false, false, b8, b9, b10, b11, b12, b13, b14, b15, b16, b17, b18, b19, false, false, false, b23, false, _, _, rfl, rfl, Lib.hid ⟨fun _ => rfl, nofun, nofun, nofun⟩⟩
          refine StepsU.cons ?_ ?_
          · intro Q E0 listed a w' hI hM hk haft K hK
            obtain ⟨b0, b1, b2, b3, b4, b5, b6, b7, b8, b9, b10, b11, b12, b13, b14, b15, b16, b17, b18, b19, b20, b21, b22, b23, b24, x44, x45, hl, ha, HF⟩ := hI
            subst hl; subst ha
            obtain ⟨G, G21, G22, G24⟩ := HF.out
            clear HF
            have hk' : b6 = false := hk
            subst hk'
            clear hk
            obtain rfl : b7 = false := by cases b7 with | false => rfl | true => exact absurd (hM 7 6 rfl rfl) Bool.false_ne_true
            obtain rfl : b20 = false := by cases b20 with | false => rfl | true => exact absurd (hM 20 7 rfl rfl) Bool.false_ne_true
            obtain rfl : b21 = false := by cases b21 with | false => rfl | true => exact absurd (hM 21 20 rfl rfl) Bool.false_ne_true
            obtain rfl : b22 = false := by cases b22 with | false => rfl | true => exact absurd (hM 22 21 rfl rfl) Bool.false_ne_true
            obtain rfl : b24 = false := by cases b24 with | false => rfl | true => exact absurd (hM 24 22 rfl rfl) Bool.false_ne_true
            obtain rfl : b5 = true := haft ⟨5, .data⟩ (by simp) rfl
            obtain rfl : b3 = true := hM 5 3 rfl rfl
            obtain rfl : b4 = true := hM 5 4 rfl rfl
            obtain rfl : b2 = true := hM 3 2 rfl rfl
            clear haft
            obtain rfl := G rfl
            go_simp
            exact hK _ _ ⟨b0, b1, true, true, true, true, true, false, b8, b9, b10, b11, b12, b13, b14, b15, b16, b17, b18, b19, false, false, false, b23, false, _, _, rfl, rfl, Lib.hid ⟨fun _ => rfl, nofun, nofun, nofun⟩⟩
          refine StepsU.cons ?_ ?_
          · intro Q E0 listed a w' hI hM hk haft K hK
            obtain ⟨b0, b1, b2, b3, b4, b5, b6, b7, b8, b9, b10, b11, b12, b13, b14, b15, b16, b17, b18, b19, b20, b21, b22, b23, b24, x44, x45, hl, ha, HF⟩ := hI
            subst hl; subst ha
            obtain ⟨G, G21, G22, G24⟩ := HF.out
            clear HF
            have hk' : b7 = false := hk
            subst hk'
            clear hk
            obtain rfl : b20 = false := by cases b20 with | false => rfl | true => exact absurd (hM 20 7 rfl rfl) Bool.false_ne_true
            obtain rfl : b21 = false := by cases b21 with | false => rfl | true => exact absurd (hM 21 20 rfl rfl) Bool.false_ne_true
            obtain rfl : b22 = false := by cases b22 with | false => rfl | true => exact absurd (hM 22 21 rfl rfl) Bool.false_ne_true
            obtain rfl : b24 = false := by cases b24 with | false => rfl | true => exact absurd (hM 24 22 rfl rfl) Bool.false_ne_true
            obtain rfl : b6 = true := haft ⟨6, .data⟩ (by simp) rfl
            obtain rfl : b5 = true := hM 6 5 rfl rfl
            obtain rfl : b3 = true := hM 5 3 rfl rfl
            obtain rfl : b4 = true := hM 5 4 rfl rfl
            obtain rfl : b2 = true := hM 3 2 rfl rfl
            clear haft
            obtain rfl := G rfl
            go_simp
            exact hK _ _ ⟨b0, b1, true, true, true, true, true, true, b8, b9, b10, b11, b12, b13, b14, b15, b16, b17, b18, b19, false, false, false, b23, false, _, _, rfl, rfl, Lib.hid ⟨fun _ => rfl, nofun, nofun, nofun⟩⟩
          refine StepsU.cons ?_ ?_
          · intro Q E0 listed a w' hI hM hk haft K hK
            obtain ⟨b0, b1, b2, b3, b4, b5, b6, b7, b8, b9, b10, b11, b12, b13, b14, b15, b16, b17, b18, b19, b20, b21, b22, b23, b24, x44, x45, hl, ha, HF⟩ := hI
            subst hl; subst ha
            obtain ⟨G, G21, G22, G24⟩ := HF.out
            clear HF
            have hk' : b8 = false := hk
            subst hk'
            clear hk
            obtain rfl : b9 = false := by cases b9 with | false => rfl | true => exact absurd (hM 9 8 rfl rfl) Bool.false_ne_true
            obtain rfl : b11 = false := by cases b11 with | false => rfl | true => exact absurd (hM 11 9 rfl rfl) Bool.false_ne_true
            obtain rfl : b12 = false := by cases b12 with | false => rfl | true => exact absurd (hM 12 11 rfl rfl) Bool.false_ne_true
            obtain rfl : b13 = false := by cases b13 with | false => rfl | true => exact absurd (hM 13 12 rfl rfl) Bool.false_ne_true
            obtain rfl : b20 = false := by cases b20 with | false => rfl | true => exact absurd (hM 20 13 rfl rfl) Bool.false_ne_true
            obtain rfl : b21 = false := by cases b21 with | false => rfl | true => exact absurd (hM 21 20 rfl rfl) Bool.false_ne_true
            obtain rfl : b22 = false := by cases b22 with | false => rfl | true => exact absurd (hM 22 21 rfl rfl) Bool.false_ne_true
            obtain rfl : b24 = false := by cases b24 with | false => rfl | true => exact absurd (hM 24 22 rfl rfl) Bool.false_ne_true
            clear haft
            obtain rfl := G rfl
            go_simp
            exact hK _ _ ⟨b0, b1, b2, b3, b4, b5, b6, b7, true, false, b10, false, false, false, b14, b15, b16, b17, b18, b19, false, false, false, b23, false, _, _, rfl, rfl, Lib.hid ⟨fun _ => rfl, nofun, nofun, nofun⟩⟩
          refine StepsU.cons ?_ ?_
          · intro Q E0 listed a w' hI hM hk haft K hK
            obtain ⟨b0, b1, b2, b3, b4, b5, b6, b7, b8, b9, b10, b11, b12, b13, b14, b15, b16, b17, b18, b19, b20, b21, b22, b23, b24, x44, x45, hl, ha, HF⟩ := hI
            subst hl; subst ha
            obtain ⟨G, G21, G22, G24⟩ := HF.out
            clear HF
            have hk' : b9 = false := hk
            subst hk'
            clear hk
            obtain rfl : b11 = false := by cases b11 with | false => rfl | true => exact absurd (hM 11 9 rfl rfl) Bool.false_ne_true
            obtain rfl : b12 = false := by cases b12 with | false => rfl | true => exact absurd (hM 12 11 rfl rfl) Bool.false_ne_true
            obtain rfl : b13 = false := by cases b13 with | false => rfl | true => exact absurd (hM 13 12 rfl rfl) Bool.false_ne_true
            obtain rfl : b20 = false := by cases b20 with | false => rfl | true => exact absurd (hM 20 13 rfl rfl) Bool.false_ne_true
            obtain rfl : b21 = false := by cases b21 with | false => rfl | true => exact absurd (hM 21 20 rfl rfl) Bool.false_ne_true
            obtain rfl : b22 = false := by cases b22 with | false => rfl | true => exact absurd (hM 22 21 rfl rfl) Bool.false_ne_true
            obtain rfl : b24 = false := by cases b24 with | false => rfl | true => exact absurd (hM 24 22 rfl rfl) Bool.false_ne_true
            obtain rfl : b8 = true := haft ⟨8, .data⟩ (by simp) rfl
            clear haft
            obtain rfl := G rfl
            go_simp
            exact hK _ _ ⟨b0, b1, b2, b3, b4, b5, b6, b7, true, true, b10, false, false, false, b14, b15, b16, b17, b18, b19, false, false, false, b23, false, _, _, rfl, rfl, Lib.hid ⟨fun _ => rfl, nofun, nofun, nofun⟩⟩
          refine StepsU.cons ?_ ?_
          · intro Q E0 listed a w' hI hM hk haft K hK
            obtain ⟨b0, b1, b2, b3, b4, b5, b6, b7, b8, b9, b10, b11, b12, b13, b14, b15, b16, b17, b18, b19, b20, b21, b22, b23, b24, x44, x45, hl, ha, HF⟩ := hI
            subst hl; subst ha
            obtain ⟨G, G21, G22, G24⟩ := HF.out
            clear HF
            have hk' : b10 = false := hk
            subst hk'
            clear hk
            obtain rfl : b11 = false := by cases b11 with | false => rfl | true => exact absurd (hM 11 10 rfl rfl) Bool.false_ne_true
            obtain rfl : b12 = false := by cases b12 with | false => rfl | true => exact absurd (hM 12 11 rfl rfl) Bool.false_ne_true
            obtain rfl : b13 = false := by cases b13 with | false => rfl | true => exact absurd (hM 13 12 rfl rfl) Bool.false_ne_true
            obtain rfl : b20 = false := by cases b20 with | false => rfl | true => exact absurd (hM 20 13 rfl rfl) Bool.false_ne_true
            obtain rfl : b21 = false := by cases b21 with | false => rfl | true => exact absurd (hM 21 20 rfl rfl) Bool.false_ne_true
            obtain rfl : b22 = false := by cases b22 with | false => rfl | true => exact absurd (hM 22 21 rfl rfl) Bool.false_ne_true
            obtain rfl : b24 = false := by cases b24 with | false => rfl | true => exact absurd (hM 24 22 rfl rfl) Bool.false_ne_true
            clear haft
            obtain rfl := G rfl
            go_simp
            exact hK _ _ ⟨b0, b1, b2, b3, b4, b5, b6, b7, b8, b9, true, false, false, false, b14, b15, b16, b17, b18, b19, false, false, false, b23, false, _, _, rfl, rfl, Lib.hid ⟨fun _ => rfl, nofun, nofun, nofun⟩⟩
          refine StepsU.cons ?_ ?_
          · intro Q E0 listed a w' hI hM hk haft K hK
            obtain ⟨b0, b1, b2, b3, b4, b5, b6, b7, b8, b9, b10, b11, b12, b13, b14, b15, b16, b17, b18, b19, b20, b21, b22, b23, b24, x44, x45, hl, ha, HF⟩ := hI
            subst hl; subst ha
            obtain ⟨G, G21, G22, G24⟩ := HF.out
            clear HF
            have hk' : b11 = false := hk
            subst hk'
            clear hk
            obtain rfl : b12 = false := by cases b12 with | false => rfl | true => exact absurd (hM 12 11 rfl rfl) Bool.false_ne_true
            obtain rfl : b13 = false := by cases b13 with | false => rfl | true => exact absurd (hM 13 12 rfl rfl) Bool.false_ne_true
            obtain rfl : b20 = false := by cases b20 with | false => rfl | true => exact absurd (hM 20 13 rfl rfl) Bool.false_ne_true
            obtain rfl : b21 = false := by cases b21 with | false => rfl | true => exact absurd (hM 21 20 rfl rfl) Bool.false_ne_true
            obtain rfl : b22 = false := by cases b22 with | false => rfl | true => exact absurd (hM 22 21 rfl rfl) Bool.false_ne_true
            obtain rfl : b24 = false := by cases b24 with | false => rfl | true => exact absurd (hM 24 22 rfl rfl) Bool.false_ne_true
            obtain rfl : b9 = true := haft ⟨9, .data⟩ (by simp) rfl
            obtain rfl : b10 = true := haft ⟨10, .data⟩ (by simp) rfl
            obtain rfl : b8 = true := hM 9 8 rfl rfl
            clear haft
            obtain rfl := G rfl
            go_simp
            exact hK _ _ ⟨b0, b1, b2, b3, b4, b5, b6, b7, true, true, true, true, false, false, b14, b15, b16, b17, b18, b19, false, false, false, b23, false, _, _, rfl, rfl, Lib.hid ⟨fun _ => rfl, nofun, nofun, nofun⟩⟩
          refine StepsU.cons ?_ ?_
          · intro Q E0 listed a w' hI hM hk haft K hK
            obtain ⟨b0, b1, b2, b3, b4, b5, b6, b7, b8, b9, b10, b11, b12, b13, b14, b15, b16, b17, b18, b19, b20, b21, b22, b23, b24, x44, x45, hl, ha, HF⟩ := hI
            subst hl; subst ha
            obtain ⟨G, G21, G22, G24⟩ := HF.out
            clear HF
            have hk' : b12 = false := hk
            subst hk'
            clear hk
            obtain rfl : b13 = false := by cases b13 with | false => rfl | true => exact absurd (hM 13 12 rfl rfl) Bool.false_ne_true
            obtain rfl : b20 = false := by cases b20 with | false => rfl | true => exact absurd (hM 20 13 rfl rfl) Bool.false_ne_true
            obtain rfl : b21 = false := by cases b21 with | false => rfl | true => exact absurd (hM 21 20 rfl rfl) Bool.false_ne_true
            obtain rfl : b22 = false := by cases b22 with | false => rfl | true => exact absurd (hM 22 21 rfl rfl) Bool.false_ne_true
            obtain rfl : b24 = false := by cases b24 with | false => rfl | true => exact absurd (hM 24 22 rfl rfl) Bool.false_ne_true
            obtain rfl : b11 = true := haft ⟨11, .data⟩ (by simp) rfl
            obtain rfl : b9 = true := hM 11 9 rfl rfl
            obtain rfl : b10 = true := hM 11 10 rfl rfl
            obtain rfl : b8 = true := hM 9 8 rfl rfl
            clear haft
            obtain rfl := G rfl
            go_simp
            exact hK _ _ ⟨b0, b1, b2, b3, b4, b5, b6, b7, true, true, true, true, true, false, b14, b15, b16, b17, b18, b19, false, false, false, b23, false, _, _, rfl, rfl, Lib.hid ⟨fun _ => rfl, nofun, nofun, nofun⟩⟩
          refine StepsU.cons ?_ ?_
          · intro Q E0 listed a w' hI hM hk haft K hK
            obtain ⟨b0, b1, b2, b3, b4, b5, b6, b7, b8, b9, b10, b11, b12, b13, b14, b15, b16, b17, b18, b19, b20, b21, b22, b23, b24, x44, x45, hl, ha, HF⟩ := hI
            subst hl; subst ha
            obtain ⟨G, G21, G22, G24⟩ := HF.out
            clear HF
            have hk' : b13 = false := hk
            subst hk'
            clear hk
            obtain rfl : b20 = false := by cases b20 with | false => rfl | true => exact absurd (hM 20 13 rfl rfl) Bool.false_ne_true
            obtain rfl : b21 = false := by cases b21 with | false => rfl | true => exact absurd (hM 21 20 rfl rfl) Bool.false_ne_true
            obtain rfl : b22 = false := by cases b22 with | false => rfl | true => exact absurd (hM 22 21 rfl rfl) Bool.false_ne_true
            obtain rfl : b24 = false := by cases b24 with | false => rfl | true => exact absurd (hM 24 22 rfl rfl) Bool.false_ne_true
            obtain rfl : b12 = true := haft ⟨12, .data⟩ (by simp) rfl
            obtain rfl : b11 = true := hM 12 11 rfl rfl
            obtain rfl : b9 = true := hM 11 9 rfl rfl
            obtain rfl : b10 = true := hM 11 10 rfl rfl
            obtain rfl : b8 = true := hM 9 8 rfl rfl
            clear haft
            obtain rfl := G rfl
            go_simp
            exact hK _ _ ⟨b0, b1, b2, b3, b4, b5, b6, b7, true, true, true, true, true, true, b14, b15, b16, b17, b18, b19, false, false, false, b23, false, _, _, rfl, rfl, Lib.hid ⟨fun _ => rfl, nofun, nofun, nofun⟩⟩
          refine StepsU.cons ?_ ?_
          · intro Q E0 listed a w' hI hM hk haft K hK
            obtain ⟨b0, b1, b2, b3, b4, b5, b6, b7, b8, b9, b10, b11, b12, b13, b14, b15, b16, b17, b18, b19, b20, b21, b22, b23, b24, x44, x45, hl, ha, HF⟩ := hI
            subst hl; subst ha
            obtain ⟨G, G21, G22, G24⟩ := HF.out
            clear HF
            have hk' : b14 = false := hk
            subst hk'
            clear hk
            obtain rfl : b15 = false := by cases b15 with | false => rfl | true => exact absurd (hM 15 14 rfl rfl) Bool.false_ne_true
            obtain rfl : b17 = false := by cases b17 with | false => rfl | true => exact absurd (hM 17 15 rfl rfl) Bool.false_ne_true
            obtain rfl : b18 = false := by cases b18 with | false => rfl | true => exact absurd (hM 18 17 rfl rfl) Bool.false_ne_true
            obtain rfl : b19 = false := by cases b19 with | false => rfl | true => exact absurd (hM 19 18 rfl rfl) Bool.false_ne_true
            obtain rfl : b20 = false := by cases b20 with | false => rfl | true => exact absurd (hM 20 19 rfl rfl) Bool.false_ne_true
            obtain rfl : b21 = false := by cases b21 with | false => rfl | true => exact absurd (hM 21 20 rfl rfl) Bool.false_ne_true
            obtain rfl : b22 = false := by cases b22 with | false => rfl | true => exact absurd (hM 22 21 rfl rfl) Bool.false_ne_true
            obtain rfl : b24 = false := by cases b24 with | false => rfl | true => exact absurd (hM 24 22 rfl rfl) Bool.false_ne_true
            clear haft
            obtain rfl := G rfl
            go_simp
            exact hK _ _ ⟨b0, b1, b2, b3, b4, b5, b6, b7, b8, b9, b10, b11, b12, b13, true, false, b16, false, false, false, false, false, false, b23, false, _, _, rfl, rfl, Lib.hid ⟨fun _ => rfl, nofun, nofun, nofun⟩⟩
          refine StepsU.cons ?_ ?_
          · intro Q E0 listed a w' hI hM hk haft K hK
            obtain ⟨b0, b1, b2, b3, b4, b5, b6, b7, b8, b9, b10, b11, b12, b13, b14, b15, b16, b17, b18, b19, b20, b21, b22, b23, b24, x44, x45, hl, ha, HF⟩ := hI
            subst hl; subst ha
            obtain ⟨G, G21, G22, G24⟩ := HF.out
            clear HF
            have hk' : b15 = false := hk
            subst hk'
            clear hk
            obtain rfl : b17 = false := by cases b17 with | false => rfl | true => exact absurd (hM 17 15 rfl rfl) Bool.false_ne_true
            obtain rfl : b18 = false := by cases b18 with | false => rfl | true => exact absurd (hM 18 17 rfl rfl) Bool.false_ne_true
            obtain rfl : b19 = false := by cases b19 with | false => rfl | true => exact absurd (hM 19 18 rfl rfl) Bool.false_ne_true
            obtain rfl : b20 = false := by cases b20 with | false => rfl | true => exact absurd (hM 20 19 rfl rfl) Bool.false_ne_true
            obtain rfl : b21 = false := by cases b21 with | false => rfl | true => exact absurd (hM 21 20 rfl rfl) Bool.false_ne_true
            obtain rfl : b22 = false := by cases b22 with | false => rfl | true => exact absurd (hM 22 21 rfl rfl) Bool.false_ne_true
            obtain rfl : b24 = false := by cases b24 with | false => rfl | true => exact absurd (hM 24 22 rfl rfl) Bool.false_ne_true
            obtain rfl : b14 = true := haft ⟨14, .data⟩ (by simp) rfl
            clear haft
            obtain rfl := G rfl
            go_simp
            exact hK _ _ ⟨b0, b1, b2, b3, b4, b5, b6, b7, b8, b9, b10, b11, b12, b13, true, true, b16, false, false, false, false, false, false, b23, false, _, _, rfl, rfl, Lib.hid ⟨fun _ => rfl, nofun, nofun, nofun⟩⟩
          refine StepsU.cons ?_ ?_
          · intro Q E0 listed a w' hI hM hk haft K hK
            obtain ⟨b0, b1, b2, b3, b4, b5, b6, b7, b8, b9, b10, b11, b12, b13, b14, b15, b16, b17, b18, b19, b20, b21, b22, b23, b24, x44, x45, hl, ha, HF⟩ := hI
            subst hl; subst ha
            obtain ⟨G, G21, G22, G24⟩ := HF.out
            clear HF
            have hk' : b16 = false := hk
            subst hk'
            clear hk
            obtain rfl : b17 = false := by cases b17 with | false => rfl | true => exact absurd (hM 17 16 rfl rfl) Bool.false_ne_true
            obtain rfl : b18 = false := by cases b18 with | false => rfl | true => exact absurd (hM 18 17 rfl rfl) Bool.false_ne_true
            obtain rfl : b19 = false := by cases b19 with | false => rfl | true => exact absurd (hM 19 18 rfl rfl) Bool.false_ne_true
            obtain rfl : b20 = false := by cases b20 with | false => rfl | true => exact absurd (hM 20 19 rfl rfl) Bool.false_ne_true
            obtain rfl : b21 = false := by cases b21 with | false => rfl | true => exact absurd (hM 21 20 rfl rfl) Bool.false_ne_true
            obtain rfl : b22 = false := by cases b22 with | false => rfl | true => exact absurd (hM 22 21 rfl rfl) Bool.false_ne_true
            obtain rfl : b24 = false := by cases b24 with | false => rfl | true => exact absurd (hM 24 22 rfl rfl) Bool.false_ne_true
            clear haft
            obtain rfl := G rfl
            go_simp
            exact hK _ _ ⟨b0, b1, b2, b3, b4, b5, b6, b7, b8, b9, b10, b11, b12, b13, b14, b15, true, false, false, false, false, false, false, b23, false, _, _, rfl, rfl, Lib.hid ⟨fun _ => rfl, nofun, nofun, nofun⟩⟩
          refine StepsU.cons ?_ ?_
          · intro Q E0 listed a w' hI hM hk haft K hK
            obtain ⟨b0, b1, b2, b3, b4, b5, b6, b7, b8, b9, b10, b11, b12, b13, b14, b15, b16, b17, b18, b19, b20, b21, b22, b23, b24, x44, x45, hl, ha, HF⟩ := hI
            subst hl; subst ha
            obtain ⟨G, G21, G22, G24⟩ := HF.out
            clear HF
            have hk' : b17 = false := hk
            subst hk'
            clear hk
            obtain rfl : b18 = false := by cases b18 with | false => rfl | true => exact absurd (hM 18 17 rfl rfl) Bool.false_ne_true
            obtain rfl : b19 = false := by cases b19 with | false => rfl | true => exact absurd (hM 19 18 rfl rfl) Bool.false_ne_true
            obtain rfl : b20 = false := by cases b20 with | false => rfl | true => exact absurd (hM 20 19 rfl rfl) Bool.false_ne_true
            obtain rfl : b21 = false := by cases b21 with | false => rfl | true => exact absurd (hM 21 20 rfl rfl) Bool.false_ne_true
            obtain rfl : b22 = false := by cases b22 with | false => rfl | true => exact absurd (hM 22 21 rfl rfl) Bool.false_ne_true
            obtain rfl : b24 = false := by cases b24 with | false => rfl | true => exact absurd (hM 24 22 rfl rfl) Bool.false_ne_true
            obtain rfl : b15 = true := haft ⟨15, .data⟩ (by simp) rfl
            obtain rfl : b16 = true := haft ⟨16, .data⟩ (by simp) rfl
            obtain rfl : b14 = true := hM 15 14 rfl rfl
            clear haft
            obtain rfl := G rfl
            go_simp
            exact hK _ _ ⟨b0, b1, b2, b3, b4, b5, b6, b7, b8, b9, b10, b11, b12, b13, true, true, true, true, false, false, false, false, false, b23, false, _, _, rfl, rfl, Lib.hid ⟨fun _ => rfl, nofun, nofun, nofun⟩⟩
          refine StepsU.cons ?_ ?_
          · intro Q E0 listed a w' hI hM hk haft K hK
            obtain ⟨b0, b1, b2, b3, b4, b5, b6, b7, b8, b9, b10, b11, b12, b13, b14, b15, b16, b17, b18, b19, b20, b21, b22, b23, b24, x44, x45, hl, ha, HF⟩ := hI
            subst hl; subst ha
            obtain ⟨G, G21, G22, G24⟩ := HF.out
            clear HF
            have hk' : b18 = false := hk
            subst hk'
            clear hk
            obtain rfl : b19 = false := by cases b19 with | false => rfl | true => exact absurd (hM 19 18 rfl rfl) Bool.false_ne_true
            obtain rfl : b20 = false := by cases b20 with | false => rfl | true => exact absurd (hM 20 19 rfl rfl) Bool.false_ne_true
            obtain rfl : b21 = false := by cases b21 with | false => rfl | true => exact absurd (hM 21 20 rfl rfl) Bool.false_ne_true
            obtain rfl : b22 = false := by cases b22 with | false => rfl | true => exact absurd (hM 22 21 rfl rfl) Bool.false_ne_true
            obtain rfl : b24 = false := by cases b24 with | false => rfl | true => exact absurd (hM 24 22 rfl rfl) Bool.false_ne_true
            obtain rfl : b17 = true := haft ⟨17, .data⟩ (by simp) rfl
            obtain rfl : b15 = true := hM 17 15 rfl rfl
            obtain rfl : b16 = true := hM 17 16 rfl rfl
            obtain rfl : b14 = true := hM 15 14 rfl rfl
            clear haft
            obtain rfl := G rfl
            go_simp
            exact hK _ _ ⟨b0, b1, b2, b3, b4, b5, b6, b7, b8, b9, b10, b11, b12, b13, true, true, true, true, true, false, false, false, false, b23, false, _, _, rfl, rfl, Lib.hid ⟨fun _ => rfl, nofun, nofun, nofun⟩⟩
          refine StepsU.cons ?_ ?_
          · intro Q E0 listed a w' hI hM hk haft K hK
            obtain ⟨b0, b1, b2, b3, b4, b5, b6, b7, b8, b9, b10, b11, b12, b13, b14, b15, b16, b17, b18, b19, b20, b21, b22, b23, b24, x44, x45, hl, ha, HF⟩ := hI
            subst hl; subst ha
            obtain ⟨G, G21, G22, G24⟩ := HF.out
            clear HF
            have hk' : b19 = false := hk
            subst hk'
            clear hk
            obtain rfl : b20 = false := by cases b20 with | false => rfl | true => exact absurd (hM 20 19 rfl rfl) Bool.false_ne_true
            obtain rfl : b21 = false := by cases b21 with | false => rfl | true => exact absurd (hM 21 20 rfl rfl) Bool.false_ne_true
            obtain rfl : b22 = false := by cases b22 with | false => rfl | true => exact absurd (hM 22 21 rfl rfl) Bool.false_ne_true
            obtain rfl : b24 = false := by cases b24 with | false => rfl | true => exact absurd (hM 24 22 rfl rfl) Bool.false_ne_true
            obtain rfl : b18 = true := haft ⟨18, .data⟩ (by simp) rfl
            obtain rfl : b17 = true := hM 18 17 rfl rfl
            obtain rfl : b15 = true := hM 17 15 rfl rfl
            obtain rfl : b16 = true := hM 17 16 rfl rfl
            obtain rfl : b14 = true := hM 15 14 rfl rfl
            clear haft
            obtain rfl := G rfl
            go_simp
            exact hK _ _ ⟨b0, b1, b2, b3, b4, b5, b6, b7, b8, b9, b10, b11, b12, b13, true, true, true, true, true, true, false, false, false, b23, false, _, _, rfl, rfl, Lib.hid ⟨fun _ => rfl, nofun, nofun, nofun⟩⟩
          refine StepsU.cons ?_ ?_
          · intro Q E0 listed a w' hI hM hk haft K hK
            obtain ⟨b0, b1, b2, b3, b4, b5, b6, b7, b8, b9, b10, b11, b12, b13, b14, b15, b16, b17, b18, b19, b20, b21, b22, b23, b24, x44, x45, hl, ha, HF⟩ := hI
            subst hl; subst ha
            obtain ⟨G, G21, G22, G24⟩ := HF.out
            clear HF
            have hk' : b20 = false := hk
            subst hk'
            clear hk
            obtain rfl : b21 = false := by cases b21 with | false => rfl | true => exact absurd (hM 21 20 rfl rfl) Bool.false_ne_true
            obtain rfl : b22 = false := by cases b22 with | false => rfl | true => exact absurd (hM 22 21 rfl rfl) Bool.false_ne_true
            obtain rfl : b24 = false := by cases b24 with | false => rfl | true => exact absurd (hM 24 22 rfl rfl) Bool.false_ne_true
            obtain rfl : b7 = true := haft ⟨7, .data⟩ (by simp) rfl
            obtain rfl : b13 = true := haft ⟨13, .data⟩ (by simp) rfl
            obtain rfl : b19 = true := haft ⟨19, .data⟩ (by simp) rfl
            obtain rfl : b6 = true := hM 7 6 rfl rfl
            obtain rfl : b12 = true := hM 13 12 rfl rfl
            obtain rfl : b18 = true := hM 19 18 rfl rfl
            obtain rfl : b5 = true := hM 6 5 rfl rfl
            obtain rfl : b11 = true := hM 12 11 rfl rfl
            obtain rfl : b17 = true := hM 18 17 rfl rfl
            obtain rfl : b3 = true := hM 5 3 rfl rfl
            obtain rfl : b4 = true := hM 5 4 rfl rfl
            obtain rfl : b9 = true := hM 11 9 rfl rfl
            obtain rfl : b10 = true := hM 11 10 rfl rfl
            obtain rfl : b15 = true := hM 17 15 rfl rfl
            obtain rfl : b16 = true := hM 17 16 rfl rfl
            obtain rfl : b2 = true := hM 3 2 rfl rfl
            obtain rfl : b8 = true := hM 9 8 rfl rfl
            obtain rfl : b14 = true := hM 15 14 rfl rfl
            clear haft
            obtain rfl := G rfl
            go_simp
            exact hK _ _ ⟨b0, b1, true, true, true, true, true, true, true, true, true, true, true, true, true, true, true, true, true, true, true, false, false, b23, false, _, _, rfl, rfl, Lib.hid ⟨fun _ => rfl, nofun, nofun, nofun⟩⟩
          refine StepsU.cons ?_ ?_
          · intro Q E0 listed a w' hI hM hk haft K hK
            obtain ⟨b0, b1, b2, b3, b4, b5, b6, b7, b8, b9, b10, b11, b12, b13, b14, b15, b16, b17, b18, b19, b20, b21, b22, b23, b24, x44, x45, hl, ha, HF⟩ := hI
            subst hl; subst ha
            obtain ⟨G, G21, G22, G24⟩ := HF.out
            clear HF
            have hk' : b21 = false := hk
            subst hk'
            clear hk
            obtain rfl : b22 = false := by cases b22 with | false => rfl | true => exact absurd (hM 22 21 rfl rfl) Bool.false_ne_true
            obtain rfl : b24 = false := by cases b24 with | false => rfl | true => exact absurd (hM 24 22 rfl rfl) Bool.false_ne_true
            obtain rfl : b20 = true := haft ⟨20, .data⟩ (by simp) rfl
            obtain rfl : b7 = true := hM 20 7 rfl rfl
            obtain rfl : b13 = true := hM 20 13 rfl rfl
            obtain rfl : b19 = true := hM 20 19 rfl rfl
            obtain rfl : b6 = true := hM 7 6 rfl rfl
            obtain rfl : b12 = true := hM 13 12 rfl rfl
            obtain rfl : b18 = true := hM 19 18 rfl rfl
            obtain rfl : b5 = true := hM 6 5 rfl rfl
            obtain rfl : b11 = true := hM 12 11 rfl rfl
            obtain rfl : b17 = true := hM 18 17 rfl rfl
            obtain rfl : b3 = true := hM 5 3 rfl rfl
            obtain rfl : b4 = true := hM 5 4 rfl rfl
            obtain rfl : b9 = true := hM 11 9 rfl rfl
            obtain rfl : b10 = true := hM 11 10 rfl rfl
            obtain rfl : b15 = true := hM 17 15 rfl rfl
            obtain rfl : b16 = true := hM 17 16 rfl rfl
            obtain rfl : b2 = true := hM 3 2 rfl rfl
            obtain rfl : b8 = true := hM 9 8 rfl rfl
            obtain rfl : b14 = true := hM 15 14 rfl rfl
            clear haft
            obtain rfl := G rfl
            go_simp
            exact hK _ _ ⟨b0, b1, true, true, true, true, true, true, true, true, true, true, true, true, true, true, true, true, true, true, true, true, false, b23, false, _, _, rfl, rfl, Lib.hid ⟨nofun, fun _ _ => ⟨rfl, rfl⟩, nofun, nofun⟩⟩
          refine StepsU.cons ?_ ?_
          · intro Q E0 listed a w' hI hM hk haft K hK
            obtain ⟨b0, b1, b2, b3, b4, b5, b6, b7, b8, b9, b10, b11, b12, b13, b14, b15, b16, b17, b18, b19, b20, b21, b22, b23, b24, x44, x45, hl, ha, HF⟩ := hI
            subst hl; subst ha
            obtain ⟨G, G21, G22, G24⟩ := HF.out
            clear HF
            have hk' : b22 = false := hk
            subst hk'
            clear hk
            obtain rfl : b24 = false := by cases b24 with | false => rfl | true => exact absurd (hM 24 22 rfl rfl) Bool.false_ne_true
            obtain rfl : b1 = true := haft ⟨1, .data⟩ (by simp) rfl
            obtain rfl : b21 = true := haft ⟨21, .data⟩ (by simp) rfl
            obtain rfl : b0 = true := hM 1 0 rfl rfl
            obtain rfl : b20 = true := hM 21 20 rfl rfl
            obtain rfl : b7 = true := hM 20 7 rfl rfl
            obtain rfl : b13 = true := hM 20 13 rfl rfl
            obtain rfl : b19 = true := hM 20 19 rfl rfl
            obtain rfl : b6 = true := hM 7 6 rfl rfl
            obtain rfl : b12 = true := hM 13 12 rfl rfl
            obtain rfl : b18 = true := hM 19 18 rfl rfl
            obtain rfl : b5 = true := hM 6 5 rfl rfl
            obtain rfl : b11 = true := hM 12 11 rfl rfl
            obtain rfl : b17 = true := hM 18 17 rfl rfl
            obtain rfl : b3 = true := hM 5 3 rfl rfl
            obtain rfl : b4 = true := hM 5 4 rfl rfl
            obtain rfl : b9 = true := hM 11 9 rfl rfl
            obtain rfl : b10 = true := hM 11 10 rfl rfl
            obtain rfl : b15 = true := hM 17 15 rfl rfl
            obtain rfl : b16 = true := hM 17 16 rfl rfl
            obtain rfl : b2 = true := hM 3 2 rfl rfl
            obtain rfl : b8 = true := hM 9 8 rfl rfl
            obtain rfl : b14 = true := hM 15 14 rfl rfl
            clear haft
            have hG := G21 rfl rfl
            obtain ⟨rfl, rfl⟩ := hG
            refine stepAppAt elMove (by decide) rfl (.tmp 24) (.tmp 44) rfl w.heap.size _ _ _ [.int .i64 z, .int .i64 y, .int .i64 x] _ wr.heap.size rfl rfl (HXD.out.mv.alloc _) (by exact blkNew _ _ rfl) rfl (by simp [Value.oneCell']) (by have := hml.out; have := Hnm.out; omega) (by have h1 : w.heap.size ≤ wr.heap.size := HXD.out.sz; simp; omega) ?_
            intro g7 cap7 w7 ho7 hg7 hat7
            have hg8 : wr.drew.grownBy w7 (Value.slice am nm cm).ownBlock := grownTrans (grownBel ((Below.refl _ _).alloc (Nat.le_refl _) _)) hg7
            have ho8 : Own3 w7 w.heap.size 89 (.slice (some ⟨g7, 0, none⟩) (ms.length + 1) cap7) (ms ++ [(z, y, x)]) := by unfold Own3; rw [List.length_append, cells3_app]; exact ho7.out
            exact hK _ _ ⟨true, true, true, true, true, true, true, true, true, true, true, true, true, true, true, true, true, true, true, true, true, true, true, b23, false, _, _, rfl, rfl, Lib.hid ⟨nofun, fun _ => nofun, fun _ _ => ⟨g7, cap7, rfl, ho8, hg8⟩, nofun⟩⟩
          refine StepsU.cons ?_ ?_
          · intro Q E0 listed a w' hI hM hk haft K hK
            obtain ⟨b0, b1, b2, b3, b4, b5, b6, b7, b8, b9, b10, b11, b12, b13, b14, b15, b16, b17, b18, b19, b20, b21, b22, b23, b24, x44, x45, hl, ha, HF⟩ := hI
            subst hl; subst ha
            obtain ⟨G, G21, G22, G24⟩ := HF.out
            clear HF
            have hk' : b23 = false := hk
            subst hk'
            clear hk
            obtain rfl : b24 = false := by cases b24 with | false => rfl | true => exact absurd (hM 24 23 rfl rfl) Bool.false_ne_true
            clear haft
            go_simp
            exact hK _ _ ⟨b0, b1, b2, b3, b4, b5, b6, b7, b8, b9, b10, b11, b12, b13, b14, b15, b16, b17, b18, b19, b20, b21, b22, true, false, _, _, rfl, rfl, Lib.hid ⟨G, G21, G22, nofun⟩⟩
          refine StepsU.cons ?_ ?_
          · intro Q E0 listed a w' hI hM hk haft K hK
            obtain ⟨b0, b1, b2, b3, b4, b5, b6, b7, b8, b9, b10, b11, b12, b13, b14, b15, b16, b17, b18, b19, b20, b21, b22, b23, b24, x44, x45, hl, ha, HF⟩ := hI
            subst hl; subst ha
            obtain ⟨G, G21, G22, G24⟩ := HF.out
            clear HF
            have hk' : b24 = false := hk
            subst hk'
            clear hk
            obtain rfl : b22 = true := haft ⟨22, .data⟩ (by simp) rfl
            obtain rfl : b23 = true := haft ⟨23, .data⟩ (by simp) rfl
            obtain rfl : b1 = true := hM 22 1 rfl rfl
            obtain rfl : b21 = true := hM 22 21 rfl rfl
            obtain rfl : b0 = true := hM 1 0 rfl rfl
            obtain rfl : b20 = true := hM 21 20 rfl rfl
            obtain rfl : b7 = true := hM 20 7 rfl rfl
            obtain rfl : b13 = true := hM 20 13 rfl rfl
            obtain rfl : b19 = true := hM 20 19 rfl rfl
            obtain rfl : b6 = true := hM 7 6 rfl rfl
            obtain rfl : b12 = true := hM 13 12 rfl rfl
            obtain rfl : b18 = true := hM 19 18 rfl rfl
            obtain rfl : b5 = true := hM 6 5 rfl rfl
            obtain rfl : b11 = true := hM 12 11 rfl rfl
            obtain rfl : b17 = true := hM 18 17 rfl rfl
            obtain rfl : b3 = true := hM 5 3 rfl rfl
            obtain rfl : b4 = true := hM 5 4 rfl rfl
            obtain rfl : b9 = true := hM 11 9 rfl rfl
            obtain rfl : b10 = true := hM 11 10 rfl rfl
            obtain rfl : b15 = true := hM 17 15 rfl rfl
            obtain rfl : b16 = true := hM 17 16 rfl rfl
            obtain rfl : b2 = true := hM 3 2 rfl rfl
            obtain rfl : b8 = true := hM 9 8 rfl rfl
            obtain rfl : b14 = true := hM 15 14 rfl rfl
            clear haft
            have hG := G22 rfl rfl
            obtain ⟨g7, cap7, rfl, ho8, hg8⟩ := hG
            have HX7 := HXD.out.addM hg8 ho8
            have b4' := HXD.out.hdM hg8
            obtain ⟨_, e1', _, _⟩ := blk4 b4'
            have f1' := blkFz b4' 1
            have h07 := blkGrow hg8 h02.out (fun e => ownNe HXD.out.mv h02.out (by decide) e.symm)
            have h17 := blkGrow hg8 h12.out (fun e => ownNe HXD.out.mv h12.out (by decide) e.symm)
            go_simp
            exact hK _ _ ⟨true, true, true, true, true, true, true, true, true, true, true, true, true, true, true, true, true, true, true, true, true, true, true, true, true, _, _, rfl, rfl, Lib.hid ⟨nofun, fun _ => nofun, fun _ => nofun, fun _ => ⟨_, HX7, blkSet h07 (by have := Hgw.out; omega), blkSet h17 (by have := Hgw.out; omega)⟩⟩⟩
          exact StepsU.nil
        · intro G0 hG0 listed a w' hI hall
          obtain ⟨b0, b1, b2, b3, b4, b5, b6, b7, b8, b9, b10, b11, b12, b13, b14, b15, b16, b17, b18, b19, b20, b21, b22, b23, b24, x44, x45, hl, ha, HF⟩ := hI
          subst hl; subst ha
          obtain rfl : b0 = true := hall 0 (by decide)
          obtain rfl : b1 = true := hall 1 (by decide)
          obtain rfl : b2 = true := hall 2 (by decide)
          obtain rfl : b3 = true := hall 3 (by decide)
          obtain rfl : b4 = true := hall 4 (by decide)
          obtain rfl : b5 = true := hall 5 (by decide)
          obtain rfl : b6 = true := hall 6 (by decide)
          obtain rfl : b7 = true := hall 7 (by decide)
          obtain rfl : b8 = true := hall 8 (by decide)
          obtain rfl : b9 = true := hall 9 (by decide)
          obtain rfl : b10 = true := hall 10 (by decide)
          obtain rfl : b11 = true := hall 11 (by decide)
          obtain rfl : b12 = true := hall 12 (by decide)
          obtain rfl : b13 = true := hall 13 (by decide)
          obtain rfl : b14 = true := hall 14 (by decide)
          obtain rfl : b15 = true := hall 15 (by decide)
          obtain rfl : b16 = true := hall 16 (by decide)
          obtain rfl : b17 = true := hall 17 (by decide)
          obtain rfl : b18 = true := hall 18 (by decide)
          obtain rfl : b19 = true := hall 19 (by decide)
          obtain rfl : b20 = true := hall 20 (by decide)
          obtain rfl : b21 = true := hall 21 (by decide)
          obtain rfl : b22 = true := hall 22 (by decide)
          obtain rfl : b23 = true := hall 23 (by decide)
          obtain rfl : b24 = true := hall 24 (by decide)
          exact hG0 _ _ _ (HF.out.2.2.2 rfl)
        · intro x44 x45 w' hFin
          obtain ⟨vm', hS', hw0, hw1⟩ := hFin
          clear d1D e1D m0D m1D m2D d1 e1 m0 m1 m2 c0 d2 d3 e0 e2 e3 HXD h02 h12
          go_wp2
          go_roundw
          case rel => exact ⟨k + 1, _, by omega, by go_num, by rw [Hst.out]; exact hS', hw0, hw1⟩
          case measure => simp [intOf]; omega
      · obtain rfl : k = D.moves.length := by omega
        rw [List.take_length] at hs
        obtain ⟨a1', n1', ca1', rfl⟩ := hs.out.mv.sl
        obtain ⟨a2', n2', ca2', rfl⟩ := hs.out.fs.sl
        obtain ⟨a3', n3', ca3', rfl⟩ := hs.out.en.sl
        obtain ⟨e0, e1, e2, e3⟩ := blk4 hs.out.hd
        obtain ⟨f0, f1, f2, f3⟩ := blk4 h1.out
        have g1 := blkFz h1.out
        go_wp2
        refine bodyPost_ret (v := .agg #[.int .i64 D.states, .slice a1' n1' ca1', .slice a2' n2' ca2', .slice a3' n3' ca3']) (by simp [results, Try.results75, go_sem, f0, f1, f2, f3, g1]) rfl ⟨_, _, _, rfl, ?_, ?_⟩
        · exact bel4 hs.out.bel (by omega) _ _ _ _
        · exact hs.out.o.set4 _ (by omega) h1.out (by decide) _ _ _ _
end Go.Proofs.Ytgihihnbapnnjaa
