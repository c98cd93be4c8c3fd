/- Turning an automaton with choices round: the program's answers and the reference's. -/
import Derived.Deep.RegionLaw
import Derived.Deep.RegionHeld3
import Derived.Test.YtgihihnbapnnjaaNfs
set_option linter.unusedSimpArgs false
set_option linter.unusedVariables false
set_option linter.unusedSectionVars false
namespace Go.Proofs.Ytgihihnbapnnjaa
open Go.RowKit
set_option maxRecDepth 100000
variable {S T : Nat → Prop}
theorem blk_st4 {w : World} {b g : Nat} {o : Obj} {x y z u : Value} (h : w.heap[b]? = some o) (hne : b ≠ g) : ((((w.setCell ⟨g, 0, none⟩ x).setCell ⟨g, 1, none⟩ y).setCell ⟨g, 2, none⟩ z).setCell ⟨g, 3, none⟩ u).heap[b]? = some o :=
  blkSet (blkSet (blkSet (blkSet h hne) hne) hne) hne
set_option maxHeartbeats 4000000 in
theorem turn_c (vm vf ve : Value) (D : NfaD) (w : World) (h : NfaR S w vm vf ve D) (hD : okN D) : Calls Try.prog 79 #[.agg #[.int .i64 D.states, vm, vf, ve]] w (RNf w (turnD D)) := by
  obtain ⟨a1, c1, a2, c2, a3, c3, rfl, rfl, rfl, hn1, hn2, hn3⟩ := h.shapes
  obtain ⟨W, hW⟩ : ∃ W, W = (w.alloc (.cells #[.int .i64 D.states, .slice a1 D.moves.length c1, .slice a2 D.firsts.length c2, .slice a3 D.ends.length c3] 46)).alloc (.cells #[.int .i64 0, .slice none 0 0, .slice none 0 0, .slice none 0 0] 46) := ⟨_, rfl⟩
  have Hb0 : Hid (Below w.heap.size w W) := by rw [hW]; exact ((Below.refl _ _).alloc (Nat.le_refl _) _).alloc (by simp) _
  have k0 : Hid (W.heap[w.heap.size]? = some (.cells #[.int .i64 D.states, .slice a1 D.moves.length c1, .slice a2 D.firsts.length c2, .slice a3 D.ends.length c3] 46 (0, 0))) := by rw [hW]; exact blkOld (blkNew _ _ rfl)
  have k1 : Hid (W.heap[w.heap.size + 1]? = some (.cells #[.int .i64 0, .slice none 0 0, .slice none 0 0, .slice none 0 0] 46 (0, 0))) := by rw [hW]; exact blkNew _ _ (by simp)
  have hz : Hid (W.heap.size = w.heap.size + 2) := by rw [hW]; simp [Hid]
  have H0 := Lib.hid h
  have H := Lib.hid (h.stay (kpB Hb0.out)); clear h
  have HD := Lib.hid hD; clear hD
  have HW := Lib.hid hW; clear hW
  go_enter Try.func79, Try.ntmps79
  go_wp2_with fail
  rw [← HW.out]
  clear HW
  have HK : Hid (∀ w', Below W.heap.size W w' → w'.cell? ⟨w.heap.size, 0, none⟩ = some (.int .i64 D.states) ∧ w'.cell? ⟨w.heap.size, 1, none⟩ = some (.slice a1 D.moves.length c1) ∧ w'.cell? ⟨w.heap.size, 2, none⟩ = some (.slice a2 D.firsts.length c2) ∧ w'.cell? ⟨w.heap.size, 3, none⟩ = some (.slice a3 D.ends.length c3)) := fun w' hb => blk4 (blkBel hb k0.out)
  have HLN := Lib.hid (okN_len HD.out)
  refine wp_region_inv2 [(1, 0), (3, 2), (4, 3), (6, 5), (7, 6), (8, 1), (8, 4), (8, 7), (10, 0), (10, 1), (10, 2), (10, 3), (10, 4), (10, 5), (10, 6), (10, 7), (10, 8), (10, 9)] (fun listed a w' => ∃ (b0 b1 b2 b3 b4 b5 b6 b7 b8 b9 b10 : Bool) (x3 x10 x13 : Value) (hh : Option (Nat × Obj)) (r0 r1 : Option Rw), listed = #[b0, b1, b2, b3, b4, b5, b6, b7, b8, b9, b10] ∧ a = { tmps := #[.agg #[.int .i64 D.states, .slice a1 D.moves.length c1, .slice a2 D.firsts.length c2, .slice a3 D.ends.length c3], .pointer (some ⟨w.heap.size, 0, none⟩), .pointer (some ⟨w.heap.size + 1, 0, none⟩), x3, undef, undef, cond b0 (.pointer (some ⟨w.heap.size, 0, none⟩)) (undef), cond b1 (.int .i64 D.states) (undef), cond b2 (.pointer (some ⟨w.heap.size, 3, none⟩)) (undef), cond b3 (.slice a3 D.ends.length c3) (undef), x10, cond b5 (.pointer (some ⟨w.heap.size, 2, none⟩)) (undef), cond b6 (.slice a2 D.firsts.length c2) (undef), x13, cond b8 (.agg #[.int .i64 D.states, .slice none 0 0, x10, x13]) (undef), undef, undef, undef, undef, undef, undef, undef, undef, undef, undef, undef, undef, undef, undef, undef, undef, undef, undef, undef, undef, undef], defers := [] } ∧ Hid ((b4 = false → r0 = none) ∧ (b4 = true → ∃ (g : Option Addr) (c : Nat), x10 = .slice (g) (D.ends.length) c ∧ r0 = some ⟨3, 1, x10, D.ends.length, D.ends.map (.int .i64 ·)⟩) ∧ (b7 = false → r1 = none) ∧ (b7 = true → ∃ (g : Option Addr) (c : Nat), x13 = .slice (g) (D.firsts.length) c ∧ r1 = some ⟨3, 1, x13, D.firsts.length, D.firsts.map (.int .i64 ·)⟩) ∧ (b9 = false → hh = none) ∧ (b9 = true → b10 = false → ∃ g : Nat, x3 = .pointer (some ⟨g, 0, none⟩) ∧ hh = some (g, .cells #[.int .i64 0, .slice none 0 0, .slice none 0 0, .slice none 0 0] 46 (0, 0))) ∧ (b10 = true → ∃ (g : Nat) (vf ve : Value), x3 = .pointer (some ⟨g, 0, none⟩) ∧ w.heap.size + 1 < g ∧ NSt w w' g w.heap.size D.states (.slice none 0 0) vf ve [] D.ends D.firsts ∧ w'.heap[w.heap.size]? = some (.cells #[.int .i64 D.states, .slice a1 D.moves.length c1, .slice a2 D.firsts.length c2, .slice a3 D.ends.length c3] 46 (0, 0)) ∧ w'.heap[w.heap.size + 1]? = some (.cells #[.int .i64 0, .slice none 0 0, .slice none 0 0, .slice none 0 0] 46 (0, 0))) ∧ (b10 = false → Sr W w' hh [r0, r1]))) (fun G => ∀ (x3 x10 x13 : Value) (w' : World), (∃ (g : Nat) (vf ve : Value), x3 = .pointer (some ⟨g, 0, none⟩) ∧ w.heap.size + 1 < g ∧ NSt w w' g w.heap.size D.states (.slice none 0 0) vf ve [] D.ends D.firsts ∧ w'.heap[w.heap.size]? = some (.cells #[.int .i64 D.states, .slice a1 D.moves.length c1, .slice a2 D.firsts.length c2, .slice a3 D.ends.length c3] 46 (0, 0)) ∧ w'.heap[w.heap.size + 1]? = some (.cells #[.int .i64 0, .slice none 0 0, .slice none 0 0, .slice none 0 0] 46 (0, 0))) → G { tmps := #[.agg #[.int .i64 D.states, .slice a1 D.moves.length c1, .slice a2 D.firsts.length c2, .slice a3 D.ends.length c3], .pointer (some ⟨w.heap.size, 0, none⟩), .pointer (some ⟨w.heap.size + 1, 0, none⟩), x3, undef, undef, .pointer (some ⟨w.heap.size, 0, none⟩), .int .i64 D.states, .pointer (some ⟨w.heap.size, 3, none⟩), .slice a3 D.ends.length c3, x10, .pointer (some ⟨w.heap.size, 2, none⟩), .slice a2 D.firsts.length c2, x13, .agg #[.int .i64 D.states, .slice none 0 0, x10, x13], undef, undef, undef, undef, undef, undef, undef, undef, undef, undef, undef, undef, undef, undef, undef, undef, undef, undef, undef, undef, undef], defers := [] } w') (by kernel_rfl) (by kernel_rfl) (by kernel_rfl) (by kernel_rfl) ?_ ?_ ?_ ?_
  · exact ⟨false, false, false, false, false, false, false, false, false, false, false, undef, undef, undef, none, none, none, rfl, rfl, Lib.hid ⟨fun _ => rfl, nofun, fun _ => rfl, nofun, fun _ => rfl, nofun, nofun, fun _ => Sr.start W 2⟩⟩
  · refine StepsU.cons ?_ ?_
    · intro Q E0 listed a w' hI hM hk haft K hK
      obtain ⟨b0, b1, b2, b3, b4, b5, b6, b7, b8, b9, b10, x3, x10, x13, hh, r0, r1, hl, ha, HF⟩ := hI
      subst hl; subst ha
      obtain ⟨N0, P0_0, N1, P1_0, NH, PH, Z, HS⟩ := HF.out
      clear HF
      have hk' : b0 = false := hk
      subst hk'
      clear hk
      obtain rfl : b1 = false := by cases b1 with | false => rfl | true => exact absurd (hM 1 0 rfl rfl) Bool.false_ne_true
      obtain rfl : b8 = false := by cases b8 with | false => rfl | true => exact absurd (hM 8 1 rfl rfl) Bool.false_ne_true
      obtain rfl : b10 = false := by cases b10 with | false => rfl | true => exact absurd (hM 10 0 rfl rfl) Bool.false_ne_true
      clear haft
      have hSr := HS rfl
      have hBl := hSr.bel
      obtain ⟨q0, q1, q2, q3⟩ := HK.out w' hBl
      go_simp
      exact hK _ _ ⟨true, false, b2, b3, b4, b5, b6, b7, false, b9, false, _, _, _, _, _, _, rfl, rfl, Lib.hid ⟨N0, P0_0, N1, P1_0, NH, PH, nofun, fun _ => hSr⟩⟩
    refine StepsU.cons ?_ ?_
    · intro Q E0 listed a w' hI hM hk haft K hK
      obtain ⟨b0, b1, b2, b3, b4, b5, b6, b7, b8, b9, b10, x3, x10, x13, hh, r0, r1, hl, ha, HF⟩ := hI
      subst hl; subst ha
      obtain ⟨N0, P0_0, N1, P1_0, NH, PH, Z, HS⟩ := HF.out
      clear HF
      have hk' : b1 = false := hk
      subst hk'
      clear hk
      obtain rfl : b8 = false := by cases b8 with | false => rfl | true => exact absurd (hM 8 1 rfl rfl) Bool.false_ne_true
      obtain rfl : b10 = false := by cases b10 with | false => rfl | true => exact absurd (hM 10 1 rfl rfl) Bool.false_ne_true
      obtain rfl : b0 = true := haft ⟨0, .data⟩ (by simp) rfl
      clear haft
      have hSr := HS rfl
      have hBl := hSr.bel
      obtain ⟨q0, q1, q2, q3⟩ := HK.out w' hBl
      go_simp
      exact hK _ _ ⟨true, true, b2, b3, b4, b5, b6, b7, false, b9, false, _, _, _, _, _, _, rfl, rfl, Lib.hid ⟨N0, P0_0, N1, P1_0, NH, PH, nofun, fun _ => hSr⟩⟩
    refine StepsU.cons ?_ ?_
    · intro Q E0 listed a w' hI hM hk haft K hK
      obtain ⟨b0, b1, b2, b3, b4, b5, b6, b7, b8, b9, b10, x3, x10, x13, hh, r0, r1, hl, ha, HF⟩ := hI
      subst hl; subst ha
      obtain ⟨N0, P0_0, N1, P1_0, NH, PH, Z, HS⟩ := HF.out
      clear HF
      have hk' : b2 = false := hk
      subst hk'
      clear hk
      obtain rfl : b3 = false := by cases b3 with | false => rfl | true => exact absurd (hM 3 2 rfl rfl) Bool.false_ne_true
      obtain rfl : b4 = false := by cases b4 with | false => rfl | true => exact absurd (hM 4 3 rfl rfl) Bool.false_ne_true
      obtain rfl : b8 = false := by cases b8 with | false => rfl | true => exact absurd (hM 8 4 rfl rfl) Bool.false_ne_true
      obtain rfl : b10 = false := by cases b10 with | false => rfl | true => exact absurd (hM 10 2 rfl rfl) Bool.false_ne_true
      clear haft
      have hSr := HS rfl
      have hBl := hSr.bel
      obtain ⟨q0, q1, q2, q3⟩ := HK.out w' hBl
      go_simp
      exact hK _ _ ⟨b0, b1, true, false, false, b5, b6, b7, false, b9, false, _, _, _, _, _, _, rfl, rfl, Lib.hid ⟨N0, P0_0, N1, P1_0, NH, PH, nofun, fun _ => hSr⟩⟩
    refine StepsU.cons ?_ ?_
    · intro Q E0 listed a w' hI hM hk haft K hK
      obtain ⟨b0, b1, b2, b3, b4, b5, b6, b7, b8, b9, b10, x3, x10, x13, hh, r0, r1, hl, ha, HF⟩ := hI
      subst hl; subst ha
      obtain ⟨N0, P0_0, N1, P1_0, NH, PH, Z, HS⟩ := HF.out
      clear HF
      have hk' : b3 = false := hk
      subst hk'
      clear hk
      obtain rfl : b4 = false := by cases b4 with | false => rfl | true => exact absurd (hM 4 3 rfl rfl) Bool.false_ne_true
      obtain rfl : b8 = false := by cases b8 with | false => rfl | true => exact absurd (hM 8 4 rfl rfl) Bool.false_ne_true
      obtain rfl : b10 = false := by cases b10 with | false => rfl | true => exact absurd (hM 10 3 rfl rfl) Bool.false_ne_true
      obtain rfl : b2 = true := haft ⟨2, .data⟩ (by simp) rfl
      clear haft
      have hSr := HS rfl
      have hBl := hSr.bel
      obtain ⟨q0, q1, q2, q3⟩ := HK.out w' hBl
      go_simp
      exact hK _ _ ⟨b0, b1, true, true, false, b5, b6, b7, false, b9, false, _, _, _, _, _, _, rfl, rfl, Lib.hid ⟨N0, P0_0, N1, P1_0, NH, PH, nofun, fun _ => hSr⟩⟩
    refine StepsU.cons ?_ ?_
    · intro Q E0 listed a w' hI hM hk haft K hK
      obtain ⟨b0, b1, b2, b3, b4, b5, b6, b7, b8, b9, b10, x3, x10, x13, hh, r0, r1, hl, ha, HF⟩ := hI
      subst hl; subst ha
      obtain ⟨N0, P0_0, N1, P1_0, NH, PH, Z, HS⟩ := HF.out
      clear HF
      have hk' : b4 = false := hk
      subst hk'
      clear hk
      obtain rfl : b8 = false := by cases b8 with | false => rfl | true => exact absurd (hM 8 4 rfl rfl) Bool.false_ne_true
      obtain rfl : b10 = false := by cases b10 with | false => rfl | true => exact absurd (hM 10 4 rfl rfl) Bool.false_ne_true
      obtain rfl : b3 = true := haft ⟨3, .data⟩ (by simp) rfl
      obtain rfl : b2 = true := hM 3 2 rfl rfl
      clear haft
      have hSr := HS rfl
      have hBl := hSr.bel
      obtain ⟨q0, q1, q2, q3⟩ := HK.out w' hBl
      obtain rfl := N0 rfl
      go_simp
      go_at_call 134
      refine (cloneInt_c _ D.ends _ ((H.out.2.2).stay (kpB hBl)) (by have := HLN.out; omega)).mono ?_
      rintro e w1 ⟨vv, rfl, hbc, hoc⟩
      obtain ⟨aa, cc, rfl, _⟩ := hoc.out.shape
      replace hoc := hoc.out
      exact hK _ _ ⟨b0, b1, true, true, true, b5, b6, b7, false, b9, false, _, .slice aa D.ends.length cc, _, _, some ⟨3, 1, .slice aa D.ends.length cc, D.ends.length, D.ends.map (.int .i64 ·)⟩, _, rfl, rfl, Lib.hid ⟨nofun, fun _ => ⟨aa, cc, rfl, rfl⟩, N1, P1_0, NH, PH, nofun, fun _ => Sr.call [] [r1] ⟨3, 1, .slice aa D.ends.length cc, D.ends.length, D.ends.map (.int .i64 ·)⟩ hSr hbc hoc⟩⟩
    refine StepsU.cons ?_ ?_
    · intro Q E0 listed a w' hI hM hk haft K hK
      obtain ⟨b0, b1, b2, b3, b4, b5, b6, b7, b8, b9, b10, x3, x10, x13, hh, r0, r1, hl, ha, HF⟩ := hI
      subst hl; subst ha
      obtain ⟨N0, P0_0, N1, P1_0, NH, PH, Z, HS⟩ := HF.out
      clear HF
      have hk' : b5 = false := hk
      subst hk'
      clear hk
      obtain rfl : b6 = false := by cases b6 with | false => rfl | true => exact absurd (hM 6 5 rfl rfl) Bool.false_ne_true
      obtain rfl : b7 = false := by cases b7 with | false => rfl | true => exact absurd (hM 7 6 rfl rfl) Bool.false_ne_true
      obtain rfl : b8 = false := by cases b8 with | false => rfl | true => exact absurd (hM 8 7 rfl rfl) Bool.false_ne_true
      obtain rfl : b10 = false := by cases b10 with | false => rfl | true => exact absurd (hM 10 5 rfl rfl) Bool.false_ne_true
      clear haft
      have hSr := HS rfl
      have hBl := hSr.bel
      obtain ⟨q0, q1, q2, q3⟩ := HK.out w' hBl
      go_simp
      exact hK _ _ ⟨b0, b1, b2, b3, b4, true, false, false, false, b9, false, _, _, _, _, _, _, rfl, rfl, Lib.hid ⟨N0, P0_0, N1, P1_0, NH, PH, nofun, fun _ => hSr⟩⟩
    refine StepsU.cons ?_ ?_
    · intro Q E0 listed a w' hI hM hk haft K hK
      obtain ⟨b0, b1, b2, b3, b4, b5, b6, b7, b8, b9, b10, x3, x10, x13, hh, r0, r1, hl, ha, HF⟩ := hI
      subst hl; subst ha
      obtain ⟨N0, P0_0, N1, P1_0, NH, PH, Z, HS⟩ := HF.out
      clear HF
      have hk' : b6 = false := hk
      subst hk'
      clear hk
      obtain rfl : b7 = false := by cases b7 with | false => rfl | true => exact absurd (hM 7 6 rfl rfl) Bool.false_ne_true
      obtain rfl : b8 = false := by cases b8 with | false => rfl | true => exact absurd (hM 8 7 rfl rfl) Bool.false_ne_true
      obtain rfl : b10 = false := by cases b10 with | false => rfl | true => exact absurd (hM 10 6 rfl rfl) Bool.false_ne_true
      obtain rfl : b5 = true := haft ⟨5, .data⟩ (by simp) rfl
      clear haft
      have hSr := HS rfl
      have hBl := hSr.bel
      obtain ⟨q0, q1, q2, q3⟩ := HK.out w' hBl
      go_simp
      exact hK _ _ ⟨b0, b1, b2, b3, b4, true, true, false, false, b9, false, _, _, _, _, _, _, rfl, rfl, Lib.hid ⟨N0, P0_0, N1, P1_0, NH, PH, nofun, fun _ => hSr⟩⟩
    refine StepsU.cons ?_ ?_
    · intro Q E0 listed a w' hI hM hk haft K hK
      obtain ⟨b0, b1, b2, b3, b4, b5, b6, b7, b8, b9, b10, x3, x10, x13, hh, r0, r1, hl, ha, HF⟩ := hI
      subst hl; subst ha
      obtain ⟨N0, P0_0, N1, P1_0, NH, PH, Z, HS⟩ := HF.out
      clear HF
      have hk' : b7 = false := hk
      subst hk'
      clear hk
      obtain rfl : b8 = false := by cases b8 with | false => rfl | true => exact absurd (hM 8 7 rfl rfl) Bool.false_ne_true
      obtain rfl : b10 = false := by cases b10 with | false => rfl | true => exact absurd (hM 10 7 rfl rfl) Bool.false_ne_true
      obtain rfl : b6 = true := haft ⟨6, .data⟩ (by simp) rfl
      obtain rfl : b5 = true := hM 6 5 rfl rfl
      clear haft
      have hSr := HS rfl
      have hBl := hSr.bel
      obtain ⟨q0, q1, q2, q3⟩ := HK.out w' hBl
      obtain rfl := N1 rfl
      go_simp
      go_at_call 134
      refine (cloneInt_c _ D.firsts _ ((H.out.2.1).stay (kpB hBl)) (by have := HLN.out; omega)).mono ?_
      rintro e w1 ⟨vv, rfl, hbc, hoc⟩
      obtain ⟨aa, cc, rfl, _⟩ := hoc.out.shape
      replace hoc := hoc.out
      exact hK _ _ ⟨b0, b1, b2, b3, b4, true, true, true, false, b9, false, _, _, .slice aa D.firsts.length cc, _, _, some ⟨3, 1, .slice aa D.firsts.length cc, D.firsts.length, D.firsts.map (.int .i64 ·)⟩, rfl, rfl, Lib.hid ⟨N0, P0_0, nofun, fun _ => ⟨aa, cc, rfl, rfl⟩, NH, PH, nofun, fun _ => Sr.call [r0] [] ⟨3, 1, .slice aa D.firsts.length cc, D.firsts.length, D.firsts.map (.int .i64 ·)⟩ hSr hbc hoc⟩⟩
    refine StepsU.cons ?_ ?_
    · intro Q E0 listed a w' hI hM hk haft K hK
      obtain ⟨b0, b1, b2, b3, b4, b5, b6, b7, b8, b9, b10, x3, x10, x13, hh, r0, r1, hl, ha, HF⟩ := hI
      subst hl; subst ha
      obtain ⟨N0, P0_0, N1, P1_0, NH, PH, Z, HS⟩ := HF.out
      clear HF
      have hk' : b8 = false := hk
      subst hk'
      clear hk
      obtain rfl : b10 = false := by cases b10 with | false => rfl | true => exact absurd (hM 10 8 rfl rfl) Bool.false_ne_true
      obtain rfl : b1 = true := haft ⟨1, .data⟩ (by simp) rfl
      obtain rfl : b4 = true := haft ⟨4, .data⟩ (by simp) rfl
      obtain rfl : b7 = true := haft ⟨7, .data⟩ (by simp) rfl
      obtain rfl : b0 = true := hM 1 0 rfl rfl
      obtain rfl : b3 = true := hM 4 3 rfl rfl
      obtain rfl : b6 = true := hM 7 6 rfl rfl
      obtain rfl : b2 = true := hM 3 2 rfl rfl
      obtain rfl : b5 = true := hM 6 5 rfl rfl
      clear haft
      obtain ⟨g4, c4, rfl, rfl⟩ := P0_0 rfl
      obtain ⟨g7, c7, rfl, rfl⟩ := P1_0 rfl
      have hSr := HS rfl
      have hBl := hSr.bel
      obtain ⟨q0, q1, q2, q3⟩ := HK.out w' hBl
      go_simp
      exact hK _ _ ⟨true, true, true, true, true, true, true, true, true, b9, false, _, _, _, _, _, _, rfl, rfl, Lib.hid ⟨N0, fun _ => ⟨_, _, rfl, rfl⟩, N1, fun _ => ⟨_, _, rfl, rfl⟩, NH, PH, nofun, fun _ => hSr⟩⟩
    refine StepsU.cons ?_ ?_
    · intro Q E0 listed a w' hI hM hk haft K hK
      obtain ⟨b0, b1, b2, b3, b4, b5, b6, b7, b8, b9, b10, x3, x10, x13, hh, r0, r1, hl, ha, HF⟩ := hI
      subst hl; subst ha
      obtain ⟨N0, P0_0, N1, P1_0, NH, PH, Z, HS⟩ := HF.out
      clear HF
      have hk' : b9 = false := hk
      subst hk'
      clear hk
      obtain rfl : b10 = false := by cases b10 with | false => rfl | true => exact absurd (hM 10 9 rfl rfl) Bool.false_ne_true
      clear haft
      have hSr := HS rfl
      have hBl := hSr.bel
      obtain ⟨q0, q1, q2, q3⟩ := HK.out w' hBl
      obtain rfl := NH rfl
      go_simp
      exact hK _ _ ⟨b0, b1, b2, b3, b4, b5, b6, b7, b8, true, false, .pointer (some ⟨w'.heap.size, 0, none⟩), _, _, some (w'.heap.size, .cells #[.int .i64 0, .slice none 0 0, .slice none 0 0, .slice none 0 0] 46 (0, 0)), _, _, rfl, rfl, Lib.hid ⟨N0, P0_0, N1, P1_0, nofun, fun _ _ => ⟨_, rfl, rfl⟩, nofun, fun _ => hSr.hdr _ _⟩⟩
    refine StepsU.cons ?_ ?_
    · intro Q E0 listed a w' hI hM hk haft K hK
      obtain ⟨b0, b1, b2, b3, b4, b5, b6, b7, b8, b9, b10, x3, x10, x13, hh, r0, r1, hl, ha, HF⟩ := hI
      subst hl; subst ha
      obtain ⟨N0, P0_0, N1, P1_0, NH, PH, Z, HS⟩ := HF.out
      clear HF
      have hk' : b10 = false := hk
      subst hk'
      clear hk
      obtain rfl : b8 = true := haft ⟨8, .data⟩ (by simp) rfl
      obtain rfl : b9 = true := haft ⟨9, .data⟩ (by simp) rfl
      obtain rfl : b4 = true := haft ⟨4, .phase⟩ (by simp) rfl
      obtain rfl : b7 = true := haft ⟨7, .phase⟩ (by simp) rfl
      obtain rfl : b0 = true := haft ⟨0, .phase⟩ (by simp) rfl
      obtain rfl : b1 = true := haft ⟨1, .phase⟩ (by simp) rfl
      obtain rfl : b2 = true := haft ⟨2, .phase⟩ (by simp) rfl
      obtain rfl : b3 = true := haft ⟨3, .phase⟩ (by simp) rfl
      obtain rfl : b5 = true := haft ⟨5, .phase⟩ (by simp) rfl
      obtain rfl : b6 = true := haft ⟨6, .phase⟩ (by simp) rfl
      clear haft
      obtain ⟨gh, rfl, rfl⟩ := PH rfl rfl
      obtain ⟨g4, c4, rfl, rfl⟩ := P0_0 rfl
      obtain ⟨g7, c7, rfl, rfl⟩ := P1_0 rfl
      have hSr := HS rfl
      have hBl := hSr.bel
      obtain ⟨q0, q1, q2, q3⟩ := HK.out w' hBl
      obtain ⟨hh1, hh2, hh3⟩ := hSr.hd _ _ rfl
      obtain ⟨e0, e1, e2, e3⟩ := blk4 hh1
      have g1 := blkFz hh1
      go_simp
      exact hK _ _ ⟨true, true, true, true, true, true, true, true, true, true, true, _, _, _, _, _, _, rfl, rfl, Lib.hid ⟨N0, fun _ => ⟨_, _, rfl, rfl⟩, N1, fun _ => ⟨_, _, rfl, rfl⟩, NH, fun _ => nofun, fun _ => ⟨gh, _, _, rfl, by have := hz.out; omega, hSr.nst Hb0.out D.states (vm := .slice none 0 0) (ms := []) (fs := D.ends) (es := D.firsts) (.inl ⟨rfl, rfl⟩) (List.mem_cons_self ..) (List.mem_cons_of_mem _ (List.mem_cons_self ..)) (fun b hb => (List.pairwise_cons.1 hSr.ne).1 _ (List.mem_cons_self ..) _ _ b rfl rfl hb), blk_st4 (blkBel hBl k0.out) (by have := hz.out; omega), blk_st4 (blkBel hBl k1.out) (by have := hz.out; omega)⟩, nofun⟩⟩
    exact StepsU.nil
  · intro G0 hG0 listed a w' hI hall
    obtain ⟨b0, b1, b2, b3, b4, b5, b6, b7, b8, b9, b10, x3, x10, x13, hh, r0, r1, hl, ha, HF⟩ := hI
    subst hl; subst ha
    obtain rfl : b0 = true := hall 0 (by decide)
    obtain rfl : b1 = true := hall 1 (by decide)
    obtain rfl : b2 = true := hall 2 (by decide)
    obtain rfl : b3 = true := hall 3 (by decide)
    obtain rfl : b4 = true := hall 4 (by decide)
    obtain rfl : b5 = true := hall 5 (by decide)
    obtain rfl : b6 = true := hall 6 (by decide)
    obtain rfl : b7 = true := hall 7 (by decide)
    obtain rfl : b8 = true := hall 8 (by decide)
    obtain rfl : b9 = true := hall 9 (by decide)
    obtain rfl : b10 = true := hall 10 (by decide)
    exact hG0 _ _ _ _ (HF.out.2.2.2.2.2.2.1 rfl)
  · intro x3 x10 x13 w' hFin
    obtain ⟨g, vf, ve, rfl, hgw, hs, h0, h1⟩ := hFin
    clear HK
    have HS := Lib.hid hs; have K0 := Lib.hid h0; have K1 := Lib.hid h1; clear hs h0 h1
    obtain ⟨c0, d1, d2, d3⟩ := blk4 K0.out
    go_wp2_with fail
    clear c0 d1 d2 d3
    go_loopw [18] (fun i wr => ∃ (k : Nat) (vm : Value), k ≤ D.moves.length ∧ i = .int .i64 k ∧ Hid (NSt w wr g w.heap.size D.states vm vf ve ((D.moves.take k).map trn) D.ends D.firsts) ∧ Hid (wr.heap[w.heap.size]? = some (.cells #[.int .i64 D.states, .slice a1 D.moves.length c1, .slice a2 D.firsts.length c2, .slice a3 D.ends.length c3] 46 (0, 0))) ∧ Hid (wr.heap[w.heap.size + 1]? = some (.cells #[.int .i64 0, .slice none 0 0, .slice none 0 0, .slice none 0 0] 46 (0, 0)))) (fun i _ => D.moves.length - (intOf i).toNat)
    case atStart => exact ⟨0, _, by omega, rfl, HS, K0, K1⟩
    case round =>
      obtain ⟨k, vm, hk, rfl, hs, h0, h1⟩ := hrel
      clear HS K0 K1
      by_cases hlt : k < D.moves.length
      · obtain ⟨b, off, rfl, m0, m1, m2⟩ := (H0.out.stay (kpB hs.out.bel)).1.at hlt
        have Hst := Lib.hid (map_take_step trn D.moves hlt)
        obtain ⟨x, y, z, hxy⟩ : ∃ x y z, D.moves[k] = (x, y, z) := ⟨_, _, _, rfl⟩
        rw [hxy] at m0 m1 m2 Hst
        clear hxy
        obtain ⟨ms, hms⟩ : ∃ ms, ms = (D.moves.take k).map trn := ⟨_, rfl⟩
        rw [← hms] at hs Hst
        have hml := Lib.hid (show ms.length ≤ 1000000000 from by rw [hms, List.length_map, List.length_take]; have := HLN.out; omega)
        clear hms
        obtain ⟨w2, hw2⟩ : ∃ u, u = wr.alloc (.cells #[.int .i64 x, .int .i64 y, .int .i64 z] 89) := ⟨_, rfl⟩
        have hb2 : Below wr.heap.size wr w2 := by rw [hw2]; exact (Below.refl _ _).alloc (Nat.le_refl _) _
        have KM : Hid (w2.heap[wr.heap.size]? = some (.cells #[.int .i64 x, .int .i64 y, .int .i64 z] 89 (0, 0))) := by rw [hw2]; exact blkNew _ _ rfl
        have HW2 := Lib.hid hw2; clear hw2
        have hs2 := Lib.hid (hs.out.stay hb2)
        have h02 := Lib.hid (blkBel hb2 h0.out)
        have h12 := Lib.hid (blkBel hb2 h1.out)
        clear hb2 hs h0 h1
        obtain ⟨n0, n1, n2⟩ := blk3 KM.out
        obtain ⟨e0, e1, e2, e3⟩ := blk4 hs2.out.hd
        go_wp2_with (first | (at_builtin; refine app3 elMove (by decide) rfl (.tmp 23) (.tmp 31) rfl w.heap.size vm ms _ _ _ w2 rfl rfl rfl hs2.out.mv hml.out hs2.out.sz ?_; intro v1 w6 h6 hg6; obtain ⟨a1', n1', ca1', rfl⟩ := h6.out.sl; obtain ⟨f0, f1, f2, f3⟩ := blk4 (hs2.out.hdM hg6); have f4 := blkFz (hs2.out.hdM hg6) 1) | (rw [← HW2.out]))
        have hn := hs2.out.addM hg6 h6.out
        have hw0 := blkGrow hg6 h02.out (fun e => ownNe hs2.out.mv h02.out (by decide) e.symm)
        have hw1 := blkGrow hg6 h12.out (fun e => ownNe hs2.out.mv h12.out (by decide) e.symm)
        go_roundw
        case rel => exact ⟨k + 1, _, by omega, by go_num, by rw [Hst.out]; exact hn, blkSet hw0 (by omega), blkSet hw1 (by omega)⟩
        case measure => simp [intOf]; omega
      · obtain rfl : k = D.moves.length := by omega
        rw [List.take_length] at hs
        obtain ⟨a1', n1', ca1', rfl⟩ := hs.out.mv.sl
        obtain ⟨a2', n2', ca2', rfl⟩ := hs.out.fs.sl
        obtain ⟨a3', n3', ca3', rfl⟩ := hs.out.en.sl
        obtain ⟨e0, e1, e2, e3⟩ := blk4 hs.out.hd
        obtain ⟨f0, f1, f2, f3⟩ := blk4 h1.out
        have g1 := blkFz h1.out
        go_wp2
        refine bodyPost_ret (v := .agg #[.int .i64 D.states, .slice a1' n1' ca1', .slice a2' n2' ca2', .slice a3' n3' ca3']) (by simp [results, Try.results79, go_sem, f0, f1, f2, f3, g1]) rfl ⟨_, _, _, rfl, ?_, ?_⟩
        · exact bel4 hs.out.bel (by omega) _ _ _ _
        · exact hs.out.o.set4 _ (by omega) h1.out (by decide) _ _ _ _
end Go.Proofs.Ytgihihnbapnnjaa
