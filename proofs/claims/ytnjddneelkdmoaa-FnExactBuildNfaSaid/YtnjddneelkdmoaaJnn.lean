/- The automaton for the words of a language followed by those of another one: the program's. -/
import Derived.Test.YtnjddneelkdmoaaShf
import Derived.Test.YtnjddneelkdmoaaTrn
set_option linter.unusedSimpArgs false
set_option linter.unusedVariables false
set_option linter.unusedSectionVars false
namespace Go.Proofs.Ytnjddneelkdmoaa
open Go.RowKit
set_option maxRecDepth 100000
variable {S T : Nat → Prop}
theorem links_step (n : Int) (es fs : List Int) {k : Nat} (h : k < es.length) : links n (es.take (k + 1)) fs = links n (es.take k) fs ++ fs.map (fun t => (es[k], -1, t + n)) := by
  unfold links
  rw [List.take_succ_eq_append_getElem h, List.flatMap_append]; simp
theorem links_len (n : Int) (es fs : List Int) : (links n es fs).length = es.length * fs.length := by
  unfold links
  induction es with
  | nil => simp
  | cons e es ih => rw [List.flatMap_cons, List.length_append, ih]; simp [Nat.add_mul]; omega
set_option maxHeartbeats 8000000 in
theorem joinNfa_c (vma vfa vea vmb vfb veb : Value) (A B : NfaD) (w : World) (hA : NfaR S w vma vfa vea A) (hB : NfaR T w vmb vfb veb B) (okA : okN A) (okB : okN B) :
    Calls Try.prog 167 #[.agg #[.int .i64 A.states, vma, vfa, vea], .agg #[.int .i64 B.states, vmb, vfb, veb]] w (RNf w (joinD A B)) := by
  obtain ⟨a1a, c1a, a2a, c2a, a3a, c3a, rfl, rfl, rfl, _, _, _⟩ := hA.shapes
  obtain ⟨a1b, c1b, a2b, c2b, a3b, c3b, rfl, rfl, rfl, _, _, _⟩ := hB.shapes
  obtain ⟨W, hW⟩ : ∃ W, W = ((w.alloc (.cells #[.int .i64 A.states, .slice a1a A.moves.length c1a, .slice a2a A.firsts.length c2a, .slice a3a A.ends.length c3a] 36)).alloc (.cells #[.int .i64 B.states, .slice a1b B.moves.length c1b, .slice a2b B.firsts.length c2b, .slice a3b B.ends.length c3b] 36)).alloc (.cells #[.int .i64 0, .slice none 0 0, .slice none 0 0, .slice none 0 0] 36) := ⟨_, rfl⟩
  have Hb0 : Hid (Below w.heap.size w W) := by rw [hW]; exact (((Below.refl _ _).alloc (Nat.le_refl _) _).alloc (by simp) _).alloc (by simp; omega) _
  have k0 : Hid (W.heap[w.heap.size]? = some (.cells #[.int .i64 A.states, .slice a1a A.moves.length c1a, .slice a2a A.firsts.length c2a, .slice a3a A.ends.length c3a] 36 (0, 0))) := by rw [hW]; exact blkOld (blkOld (blkNew _ _ rfl))
  have k1 : Hid (W.heap[w.heap.size + 1]? = some (.cells #[.int .i64 B.states, .slice a1b B.moves.length c1b, .slice a2b B.firsts.length c2b, .slice a3b B.ends.length c3b] 36 (0, 0))) := by rw [hW]; exact blkOld (blkNew _ _ (by simp))
  have k2 : Hid (W.heap[w.heap.size + 2]? = some (.cells #[.int .i64 0, .slice none 0 0, .slice none 0 0, .slice none 0 0] 36 (0, 0))) := by rw [hW]; exact blkNew _ _ (by simp)
  have hz : Hid (W.heap.size = w.heap.size + 3) := by rw [hW]; simp [Hid]
  have HA0 := Lib.hid hA; have HB0 := Lib.hid hB
  have HA := Lib.hid (hA.stay (kpB Hb0.out)); have HB := Lib.hid (hB.stay (kpB Hb0.out)); clear hA hB
  have HLA := Lib.hid (okN_len okA); have HLB := Lib.hid (okN_len okB)
  have HRB := Lib.hid (okN_rng okB)
  have HOA := Lib.hid okA; have HOB := Lib.hid okB
  have hsA := Lib.hid okA.1
  have hwr : IntKind.i64.wrap (A.states + B.states) = A.states + B.states := IntWalk.i64_in _ (by have := okA.1; have := okB.1; omega)
  obtain ⟨sm, HSM⟩ : ∃ sm, Hid (A.moves ++ B.moves.map (sft A.states) = sm) := ⟨_, rfl⟩
  obtain ⟨bf, HBF⟩ : ∃ bf, Hid (B.firsts.map (· + A.states) = bf) := ⟨_, rfl⟩
  obtain ⟨be, HBE⟩ : ∃ be, Hid (B.ends.map (· + A.states) = be) := ⟨_, rfl⟩
  obtain ⟨fb, HFB⟩ : ∃ fb, Hid (A.firsts ++ bf = fb) := ⟨_, rfl⟩
  obtain ⟨eb, HEB⟩ : ∃ eb, Hid (A.ends ++ be = eb) := ⟨_, rfl⟩
  have HSL : Hid (sm.length ≤ 800 ∧ bf.length ≤ 40 ∧ be.length ≤ 40) := Lib.hid (by rw [← HSM.out, ← HBF.out, ← HBE.out]; simp only [List.length_append, List.length_map]; have := okN_len okA; have := okN_len okB; omega)
  have HW := Lib.hid hW; clear hW okA okB
  go_enter Try.func167, Try.ntmps167
  go_wp2_with fail
  rw [← HW.out]
  clear HW
  have HK : Hid (∀ w', Below W.heap.size W w' → (w'.cell? ⟨w.heap.size, 0, none⟩ = some (.int .i64 A.states) ∧ w'.cell? ⟨w.heap.size, 1, none⟩ = some (.slice a1a A.moves.length c1a) ∧ w'.cell? ⟨w.heap.size, 2, none⟩ = some (.slice a2a A.firsts.length c2a) ∧ w'.cell? ⟨w.heap.size, 3, none⟩ = some (.slice a3a A.ends.length c3a)) ∧
      (w'.cell? ⟨w.heap.size + 1, 0, none⟩ = some (.int .i64 B.states) ∧ w'.cell? ⟨w.heap.size + 1, 1, none⟩ = some (.slice a1b B.moves.length c1b) ∧ w'.cell? ⟨w.heap.size + 1, 2, none⟩ = some (.slice a2b B.firsts.length c2b) ∧ w'.cell? ⟨w.heap.size + 1, 3, none⟩ = some (.slice a3b B.ends.length c3b))) := fun w' hb => ⟨blk4 (blkBel hb k0.out), blk4 (blkBel hb k1.out)⟩
  refine wp_region_inv2 [(1, 0), (3, 2), (4, 1), (4, 3), (7, 5), (7, 6), (9, 8), (10, 9), (12, 11), (14, 13), (15, 12), (15, 14), (16, 4), (16, 7), (16, 10), (16, 15), (18, 0), (18, 1), (18, 2), (18, 3), (18, 4), (18, 5), (18, 6), (18, 7), (18, 8), (18, 9), (18, 10), (18, 11), (18, 12), (18, 13), (18, 14), (18, 15), (18, 16), (18, 17)] (fun listed a w' => ∃ (b0 b1 b2 b3 b4 b5 b6 b7 b8 b9 b10 b11 b12 b13 b14 b15 b16 b17 b18 : Bool) (x5 x17 x20 x25 : Value) (hh : Option (Nat × Obj)) (r0 r1 r2 : Option Rw), listed = #[b0, b1, b2, b3, b4, b5, b6, b7, b8, b9, b10, b11, b12, b13, b14, b15, b16, b17, b18] ∧ a = { tmps := #[.agg #[.int .i64 A.states, .slice a1a A.moves.length c1a, .slice a2a A.firsts.length c2a, .slice a3a A.ends.length c3a], .agg #[.int .i64 B.states, .slice a1b B.moves.length c1b, .slice a2b B.firsts.length c2b, .slice a3b B.ends.length c3b], .pointer (some ⟨w.heap.size, 0, none⟩), .pointer (some ⟨w.heap.size + 1, 0, none⟩), .pointer (some ⟨w.heap.size + 2, 0, none⟩), x5, undef, undef, undef, undef, cond b0 (.pointer (some ⟨w.heap.size, 0, none⟩)) (undef), cond b1 (.int .i64 A.states) (undef), cond b2 (.pointer (some ⟨w.heap.size + 1, 0, none⟩)) (undef), cond b3 (.int .i64 B.states) (undef), cond b4 (.int .i64 (A.states + B.states)) (undef), cond b5 (.agg #[.int .i64 A.states, .slice a1a A.moves.length c1a, .slice a2a A.firsts.length c2a, .slice a3a A.ends.length c3a]) (undef), cond b6 (.agg #[.int .i64 B.states, .slice a1b B.moves.length c1b, .slice a2b B.firsts.length c2b, .slice a3b B.ends.length c3b]) (undef), x17, cond b8 (.pointer (some ⟨w.heap.size, 2, none⟩)) (undef), cond b9 (.slice a2a A.firsts.length c2a) (undef), x20, cond b11 (.pointer (some ⟨w.heap.size + 1, 3, none⟩)) (undef), cond b12 (.slice a3b B.ends.length c3b) (undef), cond b13 (.pointer (some ⟨w.heap.size, 0, none⟩)) (undef), cond b14 (.int .i64 A.states) (undef), x25, cond b16 (.agg #[.int .i64 (A.states + B.states), x17, x20, x25]) (undef), undef, undef, undef, undef, undef, undef, undef, undef, undef, undef, undef, undef, undef, undef, undef, undef, undef, undef, undef, undef, undef, undef, undef, undef, undef, undef, undef, undef], defers := [] } ∧ Hid ((b7 = false → r0 = none) ∧ (b7 = true → ∃ (g : Option Addr) (c : Nat), x17 = .slice (g) (sm.length) c ∧ r0 = some ⟨40, 3, x17, sm.length, cells3 sm⟩) ∧ (b10 = false → r1 = none) ∧ (b10 = true → ∃ (g : Option Addr) (c : Nat), x20 = .slice (g) (A.firsts.length) c ∧ r1 = some ⟨3, 1, x20, A.firsts.length, A.firsts.map (.int .i64 ·)⟩) ∧ (b15 = false → r2 = none) ∧ (b15 = true → ∃ (g : Option Addr) (c : Nat), x25 = .slice (g) (be.length) c ∧ r2 = some ⟨3, 1, x25, be.length, be.map (.int .i64 ·)⟩) ∧ (b17 = false → hh = none) ∧ (b17 = true → b18 = false → ∃ g : Nat, x5 = .pointer (some ⟨g, 0, none⟩) ∧ hh = some (g, .cells #[.int .i64 0, .slice none 0 0, .slice none 0 0, .slice none 0 0] 36 (0, 0))) ∧ (b18 = true → ∃ (g : Nat) (vm vf ve : Value), x5 = .pointer (some ⟨g, 0, none⟩) ∧ w.heap.size + 2 < g ∧ NSt w w' g w.heap.size (A.states + B.states) vm vf ve sm A.firsts be ∧ w'.heap[w.heap.size]? = some (.cells #[.int .i64 A.states, .slice a1a A.moves.length c1a, .slice a2a A.firsts.length c2a, .slice a3a A.ends.length c3a] 36 (0, 0)) ∧ w'.heap[w.heap.size + 1]? = some (.cells #[.int .i64 B.states, .slice a1b B.moves.length c1b, .slice a2b B.firsts.length c2b, .slice a3b B.ends.length c3b] 36 (0, 0)) ∧ w'.heap[w.heap.size + 2]? = some (.cells #[.int .i64 0, .slice none 0 0, .slice none 0 0, .slice none 0 0] 36 (0, 0))) ∧ (b18 = false → Sr W w' hh [r0, r1, r2]))) (fun G => ∀ (x5 x17 x20 x25 : Value) (w' : World), (∃ (g : Nat) (vm vf ve : Value), x5 = .pointer (some ⟨g, 0, none⟩) ∧ w.heap.size + 2 < g ∧ NSt w w' g w.heap.size (A.states + B.states) vm vf ve sm A.firsts be ∧ w'.heap[w.heap.size]? = some (.cells #[.int .i64 A.states, .slice a1a A.moves.length c1a, .slice a2a A.firsts.length c2a, .slice a3a A.ends.length c3a] 36 (0, 0)) ∧ w'.heap[w.heap.size + 1]? = some (.cells #[.int .i64 B.states, .slice a1b B.moves.length c1b, .slice a2b B.firsts.length c2b, .slice a3b B.ends.length c3b] 36 (0, 0)) ∧ w'.heap[w.heap.size + 2]? = some (.cells #[.int .i64 0, .slice none 0 0, .slice none 0 0, .slice none 0 0] 36 (0, 0))) → G { tmps := #[.agg #[.int .i64 A.states, .slice a1a A.moves.length c1a, .slice a2a A.firsts.length c2a, .slice a3a A.ends.length c3a], .agg #[.int .i64 B.states, .slice a1b B.moves.length c1b, .slice a2b B.firsts.length c2b, .slice a3b B.ends.length c3b], .pointer (some ⟨w.heap.size, 0, none⟩), .pointer (some ⟨w.heap.size + 1, 0, none⟩), .pointer (some ⟨w.heap.size + 2, 0, none⟩), x5, undef, undef, undef, undef, .pointer (some ⟨w.heap.size, 0, none⟩), .int .i64 A.states, .pointer (some ⟨w.heap.size + 1, 0, none⟩), .int .i64 B.states, .int .i64 (A.states + B.states), .agg #[.int .i64 A.states, .slice a1a A.moves.length c1a, .slice a2a A.firsts.length c2a, .slice a3a A.ends.length c3a], .agg #[.int .i64 B.states, .slice a1b B.moves.length c1b, .slice a2b B.firsts.length c2b, .slice a3b B.ends.length c3b], x17, .pointer (some ⟨w.heap.size, 2, none⟩), .slice a2a A.firsts.length c2a, x20, .pointer (some ⟨w.heap.size + 1, 3, none⟩), .slice a3b B.ends.length c3b, .pointer (some ⟨w.heap.size, 0, none⟩), .int .i64 A.states, x25, .agg #[.int .i64 (A.states + B.states), x17, x20, x25], undef, undef, undef, undef, undef, undef, undef, undef, undef, undef, undef, undef, undef, undef, undef, undef, undef, undef, undef, undef, undef, undef, undef, undef, undef, undef, undef, undef], defers := [] } w') (by kernel_rfl) (by kernel_rfl) (by kernel_rfl) (by kernel_rfl) ?_ ?_ ?_ ?_
  · exact ⟨false, false, false, false, false, false, false, false, false, false, false, false, false, false, false, false, false, false, false, undef, undef, undef, undef, none, none, none, none, rfl, rfl, Lib.hid ⟨fun _ => rfl, nofun, fun _ => rfl, nofun, fun _ => rfl, nofun, fun _ => rfl, nofun, nofun, fun _ => Sr.start W 3⟩⟩
  · refine StepsU.cons ?_ ?_
    · intro Q E0 listed a w' hI hM hk haft K hK
      obtain ⟨b0, b1, b2, b3, b4, b5, b6, b7, b8, b9, b10, b11, b12, b13, b14, b15, b16, b17, b18, x5, x17, x20, x25, hh, r0, r1, r2, hl, ha, HF⟩ := hI
      subst hl; subst ha
      obtain ⟨N0, P0_0, N1, P1_0, N2, P2_0, NH, PH, Z, HS⟩ := HF.out
      clear HF
      have hk' : b0 = false := hk
      subst hk'
      clear hk
      obtain rfl : b1 = false := by cases b1 with | false => rfl | true => exact absurd (hM 1 0 rfl rfl) Bool.false_ne_true
      obtain rfl : b4 = false := by cases b4 with | false => rfl | true => exact absurd (hM 4 1 rfl rfl) Bool.false_ne_true
      obtain rfl : b16 = false := by cases b16 with | false => rfl | true => exact absurd (hM 16 4 rfl rfl) Bool.false_ne_true
      obtain rfl : b18 = false := by cases b18 with | false => rfl | true => exact absurd (hM 18 0 rfl rfl) Bool.false_ne_true
      clear haft
      have hSr := HS rfl
      have hBl := hSr.bel
      obtain ⟨⟨q0, q1, q2, q3⟩, ⟨p0, p1, p2, p3⟩⟩ := HK.out w' hBl
      go_simp
      exact hK _ _ ⟨true, false, b2, b3, false, b5, b6, b7, b8, b9, b10, b11, b12, b13, b14, b15, false, b17, false, _, _, _, _, _, _, _, _, rfl, rfl, Lib.hid ⟨N0, P0_0, N1, P1_0, N2, P2_0, NH, PH, nofun, fun _ => hSr⟩⟩
    refine StepsU.cons ?_ ?_
    · intro Q E0 listed a w' hI hM hk haft K hK
      obtain ⟨b0, b1, b2, b3, b4, b5, b6, b7, b8, b9, b10, b11, b12, b13, b14, b15, b16, b17, b18, x5, x17, x20, x25, hh, r0, r1, r2, hl, ha, HF⟩ := hI
      subst hl; subst ha
      obtain ⟨N0, P0_0, N1, P1_0, N2, P2_0, NH, PH, Z, HS⟩ := HF.out
      clear HF
      have hk' : b1 = false := hk
      subst hk'
      clear hk
      obtain rfl : b4 = false := by cases b4 with | false => rfl | true => exact absurd (hM 4 1 rfl rfl) Bool.false_ne_true
      obtain rfl : b16 = false := by cases b16 with | false => rfl | true => exact absurd (hM 16 4 rfl rfl) Bool.false_ne_true
      obtain rfl : b18 = false := by cases b18 with | false => rfl | true => exact absurd (hM 18 1 rfl rfl) Bool.false_ne_true
      obtain rfl : b0 = true := haft ⟨0, .data⟩ (by simp) rfl
      clear haft
      have hSr := HS rfl
      have hBl := hSr.bel
      obtain ⟨⟨q0, q1, q2, q3⟩, ⟨p0, p1, p2, p3⟩⟩ := HK.out w' hBl
      go_simp
      exact hK _ _ ⟨true, true, b2, b3, false, b5, b6, b7, b8, b9, b10, b11, b12, b13, b14, b15, false, b17, false, _, _, _, _, _, _, _, _, rfl, rfl, Lib.hid ⟨N0, P0_0, N1, P1_0, N2, P2_0, NH, PH, nofun, fun _ => hSr⟩⟩
    refine StepsU.cons ?_ ?_
    · intro Q E0 listed a w' hI hM hk haft K hK
      obtain ⟨b0, b1, b2, b3, b4, b5, b6, b7, b8, b9, b10, b11, b12, b13, b14, b15, b16, b17, b18, x5, x17, x20, x25, hh, r0, r1, r2, hl, ha, HF⟩ := hI
      subst hl; subst ha
      obtain ⟨N0, P0_0, N1, P1_0, N2, P2_0, NH, PH, Z, HS⟩ := HF.out
      clear HF
      have hk' : b2 = false := hk
      subst hk'
      clear hk
      obtain rfl : b3 = false := by cases b3 with | false => rfl | true => exact absurd (hM 3 2 rfl rfl) Bool.false_ne_true
      obtain rfl : b4 = false := by cases b4 with | false => rfl | true => exact absurd (hM 4 3 rfl rfl) Bool.false_ne_true
      obtain rfl : b16 = false := by cases b16 with | false => rfl | true => exact absurd (hM 16 4 rfl rfl) Bool.false_ne_true
      obtain rfl : b18 = false := by cases b18 with | false => rfl | true => exact absurd (hM 18 2 rfl rfl) Bool.false_ne_true
      clear haft
      have hSr := HS rfl
      have hBl := hSr.bel
      obtain ⟨⟨q0, q1, q2, q3⟩, ⟨p0, p1, p2, p3⟩⟩ := HK.out w' hBl
      go_simp
      exact hK _ _ ⟨b0, b1, true, false, false, b5, b6, b7, b8, b9, b10, b11, b12, b13, b14, b15, false, b17, false, _, _, _, _, _, _, _, _, rfl, rfl, Lib.hid ⟨N0, P0_0, N1, P1_0, N2, P2_0, NH, PH, nofun, fun _ => hSr⟩⟩
    refine StepsU.cons ?_ ?_
    · intro Q E0 listed a w' hI hM hk haft K hK
      obtain ⟨b0, b1, b2, b3, b4, b5, b6, b7, b8, b9, b10, b11, b12, b13, b14, b15, b16, b17, b18, x5, x17, x20, x25, hh, r0, r1, r2, hl, ha, HF⟩ := hI
      subst hl; subst ha
      obtain ⟨N0, P0_0, N1, P1_0, N2, P2_0, NH, PH, Z, HS⟩ := HF.out
      clear HF
      have hk' : b3 = false := hk
      subst hk'
      clear hk
      obtain rfl : b4 = false := by cases b4 with | false => rfl | true => exact absurd (hM 4 3 rfl rfl) Bool.false_ne_true
      obtain rfl : b16 = false := by cases b16 with | false => rfl | true => exact absurd (hM 16 4 rfl rfl) Bool.false_ne_true
      obtain rfl : b18 = false := by cases b18 with | false => rfl | true => exact absurd (hM 18 3 rfl rfl) Bool.false_ne_true
      obtain rfl : b2 = true := haft ⟨2, .data⟩ (by simp) rfl
      clear haft
      have hSr := HS rfl
      have hBl := hSr.bel
      obtain ⟨⟨q0, q1, q2, q3⟩, ⟨p0, p1, p2, p3⟩⟩ := HK.out w' hBl
      go_simp
      exact hK _ _ ⟨b0, b1, true, true, false, b5, b6, b7, b8, b9, b10, b11, b12, b13, b14, b15, false, b17, false, _, _, _, _, _, _, _, _, rfl, rfl, Lib.hid ⟨N0, P0_0, N1, P1_0, N2, P2_0, NH, PH, nofun, fun _ => hSr⟩⟩
    refine StepsU.cons ?_ ?_
    · intro Q E0 listed a w' hI hM hk haft K hK
      obtain ⟨b0, b1, b2, b3, b4, b5, b6, b7, b8, b9, b10, b11, b12, b13, b14, b15, b16, b17, b18, x5, x17, x20, x25, hh, r0, r1, r2, hl, ha, HF⟩ := hI
      subst hl; subst ha
      obtain ⟨N0, P0_0, N1, P1_0, N2, P2_0, NH, PH, Z, HS⟩ := HF.out
      clear HF
      have hk' : b4 = false := hk
      subst hk'
      clear hk
      obtain rfl : b16 = false := by cases b16 with | false => rfl | true => exact absurd (hM 16 4 rfl rfl) Bool.false_ne_true
      obtain rfl : b18 = false := by cases b18 with | false => rfl | true => exact absurd (hM 18 4 rfl rfl) Bool.false_ne_true
      obtain rfl : b1 = true := haft ⟨1, .data⟩ (by simp) rfl
      obtain rfl : b3 = true := haft ⟨3, .data⟩ (by simp) rfl
      obtain rfl : b0 = true := hM 1 0 rfl rfl
      obtain rfl : b2 = true := hM 3 2 rfl rfl
      clear haft
      have hSr := HS rfl
      have hBl := hSr.bel
      obtain ⟨⟨q0, q1, q2, q3⟩, ⟨p0, p1, p2, p3⟩⟩ := HK.out w' hBl
      go_simp
      exact hK _ _ ⟨true, true, true, true, true, b5, b6, b7, b8, b9, b10, b11, b12, b13, b14, b15, false, b17, false, _, _, _, _, _, _, _, _, rfl, rfl, Lib.hid ⟨N0, P0_0, N1, P1_0, N2, P2_0, NH, PH, nofun, fun _ => hSr⟩⟩
    refine StepsU.cons ?_ ?_
    · intro Q E0 listed a w' hI hM hk haft K hK
      obtain ⟨b0, b1, b2, b3, b4, b5, b6, b7, b8, b9, b10, b11, b12, b13, b14, b15, b16, b17, b18, x5, x17, x20, x25, hh, r0, r1, r2, hl, ha, HF⟩ := hI
      subst hl; subst ha
      obtain ⟨N0, P0_0, N1, P1_0, N2, P2_0, NH, PH, Z, HS⟩ := HF.out
      clear HF
      have hk' : b5 = false := hk
      subst hk'
      clear hk
      obtain rfl : b7 = false := by cases b7 with | false => rfl | true => exact absurd (hM 7 5 rfl rfl) Bool.false_ne_true
      obtain rfl : b16 = false := by cases b16 with | false => rfl | true => exact absurd (hM 16 7 rfl rfl) Bool.false_ne_true
      obtain rfl : b18 = false := by cases b18 with | false => rfl | true => exact absurd (hM 18 5 rfl rfl) Bool.false_ne_true
      clear haft
      have hSr := HS rfl
      have hBl := hSr.bel
      obtain ⟨⟨q0, q1, q2, q3⟩, ⟨p0, p1, p2, p3⟩⟩ := HK.out w' hBl
      go_simp
      exact hK _ _ ⟨b0, b1, b2, b3, b4, true, b6, false, b8, b9, b10, b11, b12, b13, b14, b15, false, b17, false, _, _, _, _, _, _, _, _, rfl, rfl, Lib.hid ⟨N0, nofun, N1, P1_0, N2, P2_0, NH, PH, nofun, fun _ => hSr⟩⟩
    refine StepsU.cons ?_ ?_
    · intro Q E0 listed a w' hI hM hk haft K hK
      obtain ⟨b0, b1, b2, b3, b4, b5, b6, b7, b8, b9, b10, b11, b12, b13, b14, b15, b16, b17, b18, x5, x17, x20, x25, hh, r0, r1, r2, hl, ha, HF⟩ := hI
      subst hl; subst ha
      obtain ⟨N0, P0_0, N1, P1_0, N2, P2_0, NH, PH, Z, HS⟩ := HF.out
      clear HF
      have hk' : b6 = false := hk
      subst hk'
      clear hk
      obtain rfl : b7 = false := by cases b7 with | false => rfl | true => exact absurd (hM 7 6 rfl rfl) Bool.false_ne_true
      obtain rfl : b16 = false := by cases b16 with | false => rfl | true => exact absurd (hM 16 7 rfl rfl) Bool.false_ne_true
      obtain rfl : b18 = false := by cases b18 with | false => rfl | true => exact absurd (hM 18 6 rfl rfl) Bool.false_ne_true
      clear haft
      have hSr := HS rfl
      have hBl := hSr.bel
      obtain ⟨⟨q0, q1, q2, q3⟩, ⟨p0, p1, p2, p3⟩⟩ := HK.out w' hBl
      go_simp
      exact hK _ _ ⟨b0, b1, b2, b3, b4, b5, true, false, b8, b9, b10, b11, b12, b13, b14, b15, false, b17, false, _, _, _, _, _, _, _, _, rfl, rfl, Lib.hid ⟨N0, nofun, N1, P1_0, N2, P2_0, NH, PH, nofun, fun _ => hSr⟩⟩
    refine StepsU.cons ?_ ?_
    · intro Q E0 listed a w' hI hM hk haft K hK
      obtain ⟨b0, b1, b2, b3, b4, b5, b6, b7, b8, b9, b10, b11, b12, b13, b14, b15, b16, b17, b18, x5, x17, x20, x25, hh, r0, r1, r2, hl, ha, HF⟩ := hI
      subst hl; subst ha
      obtain ⟨N0, P0_0, N1, P1_0, N2, P2_0, NH, PH, Z, HS⟩ := HF.out
      clear HF
      have hk' : b7 = false := hk
      subst hk'
      clear hk
      obtain rfl : b16 = false := by cases b16 with | false => rfl | true => exact absurd (hM 16 7 rfl rfl) Bool.false_ne_true
      obtain rfl : b18 = false := by cases b18 with | false => rfl | true => exact absurd (hM 18 7 rfl rfl) Bool.false_ne_true
      obtain rfl : b5 = true := haft ⟨5, .data⟩ (by simp) rfl
      obtain rfl : b6 = true := haft ⟨6, .data⟩ (by simp) rfl
      clear haft
      have hSr := HS rfl
      have hBl := hSr.bel
      obtain ⟨⟨q0, q1, q2, q3⟩, ⟨p0, p1, p2, p3⟩⟩ := HK.out w' hBl
      obtain rfl := N0 rfl
      go_simp
      go_at_call 202
      refine (shiftedMoves_c _ _ _ _ _ _ A B _ (HA.out.stay (kpB hBl)) (HB.out.stay (kpB hBl)) HOA.out HOB.out).mono ?_
      rintro e w1 ⟨vv, rfl, hbc, hoc⟩
      replace hoc := hoc.out
      rw [HSM.out] at hoc
      obtain ⟨aa, cc, rfl, _⟩ := Own3.shape hoc
      exact hK _ _ ⟨b0, b1, b2, b3, b4, true, true, true, b8, b9, b10, b11, b12, b13, b14, b15, false, b17, false, _, .slice aa sm.length cc, _, _, _, some ⟨40, 3, .slice aa sm.length cc, sm.length, cells3 sm⟩, _, _, rfl, rfl, Lib.hid ⟨nofun, fun _ => ⟨aa, cc, rfl, rfl⟩, N1, P1_0, N2, P2_0, NH, PH, nofun, fun _ => Sr.call [] [r1, r2] ⟨40, 3, .slice aa sm.length cc, sm.length, cells3 sm⟩ hSr hbc hoc⟩⟩
    refine StepsU.cons ?_ ?_
    · intro Q E0 listed a w' hI hM hk haft K hK
      obtain ⟨b0, b1, b2, b3, b4, b5, b6, b7, b8, b9, b10, b11, b12, b13, b14, b15, b16, b17, b18, x5, x17, x20, x25, hh, r0, r1, r2, hl, ha, HF⟩ := hI
      subst hl; subst ha
      obtain ⟨N0, P0_0, N1, P1_0, N2, P2_0, NH, PH, Z, HS⟩ := HF.out
      clear HF
      have hk' : b8 = false := hk
      subst hk'
      clear hk
      obtain rfl : b9 = false := by cases b9 with | false => rfl | true => exact absurd (hM 9 8 rfl rfl) Bool.false_ne_true
      obtain rfl : b10 = false := by cases b10 with | false => rfl | true => exact absurd (hM 10 9 rfl rfl) Bool.false_ne_true
      obtain rfl : b16 = false := by cases b16 with | false => rfl | true => exact absurd (hM 16 10 rfl rfl) Bool.false_ne_true
      obtain rfl : b18 = false := by cases b18 with | false => rfl | true => exact absurd (hM 18 8 rfl rfl) Bool.false_ne_true
      clear haft
      have hSr := HS rfl
      have hBl := hSr.bel
      obtain ⟨⟨q0, q1, q2, q3⟩, ⟨p0, p1, p2, p3⟩⟩ := HK.out w' hBl
      go_simp
      exact hK _ _ ⟨b0, b1, b2, b3, b4, b5, b6, b7, true, false, false, b11, b12, b13, b14, b15, false, b17, false, _, _, _, _, _, _, _, _, rfl, rfl, Lib.hid ⟨N0, P0_0, N1, nofun, N2, P2_0, NH, PH, nofun, fun _ => hSr⟩⟩
    refine StepsU.cons ?_ ?_
    · intro Q E0 listed a w' hI hM hk haft K hK
      obtain ⟨b0, b1, b2, b3, b4, b5, b6, b7, b8, b9, b10, b11, b12, b13, b14, b15, b16, b17, b18, x5, x17, x20, x25, hh, r0, r1, r2, hl, ha, HF⟩ := hI
      subst hl; subst ha
      obtain ⟨N0, P0_0, N1, P1_0, N2, P2_0, NH, PH, Z, HS⟩ := HF.out
      clear HF
      have hk' : b9 = false := hk
      subst hk'
      clear hk
      obtain rfl : b10 = false := by cases b10 with | false => rfl | true => exact absurd (hM 10 9 rfl rfl) Bool.false_ne_true
      obtain rfl : b16 = false := by cases b16 with | false => rfl | true => exact absurd (hM 16 10 rfl rfl) Bool.false_ne_true
      obtain rfl : b18 = false := by cases b18 with | false => rfl | true => exact absurd (hM 18 9 rfl rfl) Bool.false_ne_true
      obtain rfl : b8 = true := haft ⟨8, .data⟩ (by simp) rfl
      clear haft
      have hSr := HS rfl
      have hBl := hSr.bel
      obtain ⟨⟨q0, q1, q2, q3⟩, ⟨p0, p1, p2, p3⟩⟩ := HK.out w' hBl
      go_simp
      exact hK _ _ ⟨b0, b1, b2, b3, b4, b5, b6, b7, true, true, false, b11, b12, b13, b14, b15, false, b17, false, _, _, _, _, _, _, _, _, rfl, rfl, Lib.hid ⟨N0, P0_0, N1, nofun, N2, P2_0, NH, PH, nofun, fun _ => hSr⟩⟩
    refine StepsU.cons ?_ ?_
    · intro Q E0 listed a w' hI hM hk haft K hK
      obtain ⟨b0, b1, b2, b3, b4, b5, b6, b7, b8, b9, b10, b11, b12, b13, b14, b15, b16, b17, b18, x5, x17, x20, x25, hh, r0, r1, r2, hl, ha, HF⟩ := hI
      subst hl; subst ha
      obtain ⟨N0, P0_0, N1, P1_0, N2, P2_0, NH, PH, Z, HS⟩ := HF.out
      clear HF
      have hk' : b10 = false := hk
      subst hk'
      clear hk
      obtain rfl : b16 = false := by cases b16 with | false => rfl | true => exact absurd (hM 16 10 rfl rfl) Bool.false_ne_true
      obtain rfl : b18 = false := by cases b18 with | false => rfl | true => exact absurd (hM 18 10 rfl rfl) Bool.false_ne_true
      obtain rfl : b9 = true := haft ⟨9, .data⟩ (by simp) rfl
      obtain rfl : b8 = true := hM 9 8 rfl rfl
      clear haft
      have hSr := HS rfl
      have hBl := hSr.bel
      obtain ⟨⟨q0, q1, q2, q3⟩, ⟨p0, p1, p2, p3⟩⟩ := HK.out w' hBl
      obtain rfl := N1 rfl
      go_simp
      go_at_call 204
      refine (cloneInt_c _ A.firsts _ ((HA.out.2.1).stay (kpB hBl)) (by have := HLA.out; omega)).mono ?_
      rintro e w1 ⟨vv, rfl, hbc, hoc⟩
      obtain ⟨aa, cc, rfl, _⟩ := hoc.out.shape
      replace hoc := hoc.out
      exact hK _ _ ⟨b0, b1, b2, b3, b4, b5, b6, b7, true, true, true, b11, b12, b13, b14, b15, false, b17, false, _, _, .slice aa A.firsts.length cc, _, _, _, some ⟨3, 1, .slice aa A.firsts.length cc, A.firsts.length, A.firsts.map (.int .i64 ·)⟩, _, rfl, rfl, Lib.hid ⟨N0, P0_0, nofun, fun _ => ⟨aa, cc, rfl, rfl⟩, N2, P2_0, NH, PH, nofun, fun _ => Sr.call [r0] [r2] ⟨3, 1, .slice aa A.firsts.length cc, A.firsts.length, A.firsts.map (.int .i64 ·)⟩ hSr hbc hoc⟩⟩
    refine StepsU.cons ?_ ?_
    · intro Q E0 listed a w' hI hM hk haft K hK
      obtain ⟨b0, b1, b2, b3, b4, b5, b6, b7, b8, b9, b10, b11, b12, b13, b14, b15, b16, b17, b18, x5, x17, x20, x25, hh, r0, r1, r2, hl, ha, HF⟩ := hI
      subst hl; subst ha
      obtain ⟨N0, P0_0, N1, P1_0, N2, P2_0, NH, PH, Z, HS⟩ := HF.out
      clear HF
      have hk' : b11 = false := hk
      subst hk'
      clear hk
      obtain rfl : b12 = false := by cases b12 with | false => rfl | true => exact absurd (hM 12 11 rfl rfl) Bool.false_ne_true
      obtain rfl : b15 = false := by cases b15 with | false => rfl | true => exact absurd (hM 15 12 rfl rfl) Bool.false_ne_true
      obtain rfl : b16 = false := by cases b16 with | false => rfl | true => exact absurd (hM 16 15 rfl rfl) Bool.false_ne_true
      obtain rfl : b18 = false := by cases b18 with | false => rfl | true => exact absurd (hM 18 11 rfl rfl) Bool.false_ne_true
      clear haft
      have hSr := HS rfl
      have hBl := hSr.bel
      obtain ⟨⟨q0, q1, q2, q3⟩, ⟨p0, p1, p2, p3⟩⟩ := HK.out w' hBl
      go_simp
      exact hK _ _ ⟨b0, b1, b2, b3, b4, b5, b6, b7, b8, b9, b10, true, false, b13, b14, false, false, b17, false, _, _, _, _, _, _, _, _, rfl, rfl, Lib.hid ⟨N0, P0_0, N1, P1_0, N2, nofun, NH, PH, nofun, fun _ => hSr⟩⟩
    refine StepsU.cons ?_ ?_
    · intro Q E0 listed a w' hI hM hk haft K hK
      obtain ⟨b0, b1, b2, b3, b4, b5, b6, b7, b8, b9, b10, b11, b12, b13, b14, b15, b16, b17, b18, x5, x17, x20, x25, hh, r0, r1, r2, hl, ha, HF⟩ := hI
      subst hl; subst ha
      obtain ⟨N0, P0_0, N1, P1_0, N2, P2_0, NH, PH, Z, HS⟩ := HF.out
      clear HF
      have hk' : b12 = false := hk
      subst hk'
      clear hk
      obtain rfl : b15 = false := by cases b15 with | false => rfl | true => exact absurd (hM 15 12 rfl rfl) Bool.false_ne_true
      obtain rfl : b16 = false := by cases b16 with | false => rfl | true => exact absurd (hM 16 15 rfl rfl) Bool.false_ne_true
      obtain rfl : b18 = false := by cases b18 with | false => rfl | true => exact absurd (hM 18 12 rfl rfl) Bool.false_ne_true
      obtain rfl : b11 = true := haft ⟨11, .data⟩ (by simp) rfl
      clear haft
      have hSr := HS rfl
      have hBl := hSr.bel
      obtain ⟨⟨q0, q1, q2, q3⟩, ⟨p0, p1, p2, p3⟩⟩ := HK.out w' hBl
      go_simp
      exact hK _ _ ⟨b0, b1, b2, b3, b4, b5, b6, b7, b8, b9, b10, true, true, b13, b14, false, false, b17, false, _, _, _, _, _, _, _, _, rfl, rfl, Lib.hid ⟨N0, P0_0, N1, P1_0, N2, nofun, NH, PH, nofun, fun _ => hSr⟩⟩
    refine StepsU.cons ?_ ?_
    · intro Q E0 listed a w' hI hM hk haft K hK
      obtain ⟨b0, b1, b2, b3, b4, b5, b6, b7, b8, b9, b10, b11, b12, b13, b14, b15, b16, b17, b18, x5, x17, x20, x25, hh, r0, r1, r2, hl, ha, HF⟩ := hI
      subst hl; subst ha
      obtain ⟨N0, P0_0, N1, P1_0, N2, P2_0, NH, PH, Z, HS⟩ := HF.out
      clear HF
      have hk' : b13 = false := hk
      subst hk'
      clear hk
      obtain rfl : b14 = false := by cases b14 with | false => rfl | true => exact absurd (hM 14 13 rfl rfl) Bool.false_ne_true
      obtain rfl : b15 = false := by cases b15 with | false => rfl | true => exact absurd (hM 15 14 rfl rfl) Bool.false_ne_true
      obtain rfl : b16 = false := by cases b16 with | false => rfl | true => exact absurd (hM 16 15 rfl rfl) Bool.false_ne_true
      obtain rfl : b18 = false := by cases b18 with | false => rfl | true => exact absurd (hM 18 13 rfl rfl) Bool.false_ne_true
      clear haft
      have hSr := HS rfl
      have hBl := hSr.bel
      obtain ⟨⟨q0, q1, q2, q3⟩, ⟨p0, p1, p2, p3⟩⟩ := HK.out w' hBl
      go_simp
      exact hK _ _ ⟨b0, b1, b2, b3, b4, b5, b6, b7, b8, b9, b10, b11, b12, true, false, false, false, b17, false, _, _, _, _, _, _, _, _, rfl, rfl, Lib.hid ⟨N0, P0_0, N1, P1_0, N2, nofun, NH, PH, nofun, fun _ => hSr⟩⟩
    refine StepsU.cons ?_ ?_
    · intro Q E0 listed a w' hI hM hk haft K hK
      obtain ⟨b0, b1, b2, b3, b4, b5, b6, b7, b8, b9, b10, b11, b12, b13, b14, b15, b16, b17, b18, x5, x17, x20, x25, hh, r0, r1, r2, hl, ha, HF⟩ := hI
      subst hl; subst ha
      obtain ⟨N0, P0_0, N1, P1_0, N2, P2_0, NH, PH, Z, HS⟩ := HF.out
      clear HF
      have hk' : b14 = false := hk
      subst hk'
      clear hk
      obtain rfl : b15 = false := by cases b15 with | false => rfl | true => exact absurd (hM 15 14 rfl rfl) Bool.false_ne_true
      obtain rfl : b16 = false := by cases b16 with | false => rfl | true => exact absurd (hM 16 15 rfl rfl) Bool.false_ne_true
      obtain rfl : b18 = false := by cases b18 with | false => rfl | true => exact absurd (hM 18 14 rfl rfl) Bool.false_ne_true
      obtain rfl : b13 = true := haft ⟨13, .data⟩ (by simp) rfl
      clear haft
      have hSr := HS rfl
      have hBl := hSr.bel
      obtain ⟨⟨q0, q1, q2, q3⟩, ⟨p0, p1, p2, p3⟩⟩ := HK.out w' hBl
      go_simp
      exact hK _ _ ⟨b0, b1, b2, b3, b4, b5, b6, b7, b8, b9, b10, b11, b12, true, true, false, false, b17, false, _, _, _, _, _, _, _, _, rfl, rfl, Lib.hid ⟨N0, P0_0, N1, P1_0, N2, nofun, NH, PH, nofun, fun _ => hSr⟩⟩
    refine StepsU.cons ?_ ?_
    · intro Q E0 listed a w' hI hM hk haft K hK
      obtain ⟨b0, b1, b2, b3, b4, b5, b6, b7, b8, b9, b10, b11, b12, b13, b14, b15, b16, b17, b18, x5, x17, x20, x25, hh, r0, r1, r2, hl, ha, HF⟩ := hI
      subst hl; subst ha
      obtain ⟨N0, P0_0, N1, P1_0, N2, P2_0, NH, PH, Z, HS⟩ := HF.out
      clear HF
      have hk' : b15 = false := hk
      subst hk'
      clear hk
      obtain rfl : b16 = false := by cases b16 with | false => rfl | true => exact absurd (hM 16 15 rfl rfl) Bool.false_ne_true
      obtain rfl : b18 = false := by cases b18 with | false => rfl | true => exact absurd (hM 18 15 rfl rfl) Bool.false_ne_true
      obtain rfl : b12 = true := haft ⟨12, .data⟩ (by simp) rfl
      obtain rfl : b14 = true := haft ⟨14, .data⟩ (by simp) rfl
      obtain rfl : b11 = true := hM 12 11 rfl rfl
      obtain rfl : b13 = true := hM 14 13 rfl rfl
      clear haft
      have hSr := HS rfl
      have hBl := hSr.bel
      obtain ⟨⟨q0, q1, q2, q3⟩, ⟨p0, p1, p2, p3⟩⟩ := HK.out w' hBl
      obtain rfl := N2 rfl
      go_simp
      go_at_call 203
      refine (shifted_c _ B.ends A.states _ ((HB.out.2.2).stay (kpB hBl)) (HRB.out.2.1) (by have := hsA.out; omega) (by have := HLB.out; omega)).mono ?_
      rintro e w1 ⟨vv, rfl, hbc, hoc⟩
      replace hoc := hoc.out
      rw [HBE.out] at hoc
      obtain ⟨aa, cc, rfl, _⟩ := OwnI.shape hoc
      exact hK _ _ ⟨b0, b1, b2, b3, b4, b5, b6, b7, b8, b9, b10, true, true, true, true, true, false, b17, false, _, _, _, .slice aa be.length cc, _, _, _, some ⟨3, 1, .slice aa be.length cc, be.length, be.map (.int .i64 ·)⟩, rfl, rfl, Lib.hid ⟨N0, P0_0, N1, P1_0, nofun, fun _ => ⟨aa, cc, rfl, rfl⟩, NH, PH, nofun, fun _ => Sr.call [r0, r1] [] ⟨3, 1, .slice aa be.length cc, be.length, be.map (.int .i64 ·)⟩ hSr hbc hoc⟩⟩
    refine StepsU.cons ?_ ?_
    · intro Q E0 listed a w' hI hM hk haft K hK
      obtain ⟨b0, b1, b2, b3, b4, b5, b6, b7, b8, b9, b10, b11, b12, b13, b14, b15, b16, b17, b18, x5, x17, x20, x25, hh, r0, r1, r2, hl, ha, HF⟩ := hI
      subst hl; subst ha
      obtain ⟨N0, P0_0, N1, P1_0, N2, P2_0, NH, PH, Z, HS⟩ := HF.out
      clear HF
      have hk' : b16 = false := hk
      subst hk'
      clear hk
      obtain rfl : b18 = false := by cases b18 with | false => rfl | true => exact absurd (hM 18 16 rfl rfl) Bool.false_ne_true
      obtain rfl : b4 = true := haft ⟨4, .data⟩ (by simp) rfl
      obtain rfl : b7 = true := haft ⟨7, .data⟩ (by simp) rfl
      obtain rfl : b10 = true := haft ⟨10, .data⟩ (by simp) rfl
      obtain rfl : b15 = true := haft ⟨15, .data⟩ (by simp) rfl
      obtain rfl : b1 = true := hM 4 1 rfl rfl
      obtain rfl : b3 = true := hM 4 3 rfl rfl
      obtain rfl : b5 = true := hM 7 5 rfl rfl
      obtain rfl : b6 = true := hM 7 6 rfl rfl
      obtain rfl : b9 = true := hM 10 9 rfl rfl
      obtain rfl : b12 = true := hM 15 12 rfl rfl
      obtain rfl : b14 = true := hM 15 14 rfl rfl
      obtain rfl : b0 = true := hM 1 0 rfl rfl
      obtain rfl : b2 = true := hM 3 2 rfl rfl
      obtain rfl : b8 = true := hM 9 8 rfl rfl
      obtain rfl : b11 = true := hM 12 11 rfl rfl
      obtain rfl : b13 = true := hM 14 13 rfl rfl
      clear haft
      obtain ⟨g7, c7, rfl, rfl⟩ := P0_0 rfl
      obtain ⟨g10, c10, rfl, rfl⟩ := P1_0 rfl
      obtain ⟨g15, c15, rfl, rfl⟩ := P2_0 rfl
      have hSr := HS rfl
      have hBl := hSr.bel
      obtain ⟨⟨q0, q1, q2, q3⟩, ⟨p0, p1, p2, p3⟩⟩ := HK.out w' hBl
      go_simp
      exact hK _ _ ⟨true, true, true, true, true, true, true, true, true, true, true, true, true, true, true, true, true, b17, false, _, _, _, _, _, _, _, _, rfl, rfl, Lib.hid ⟨N0, fun _ => ⟨_, _, rfl, rfl⟩, N1, fun _ => ⟨_, _, rfl, rfl⟩, N2, fun _ => ⟨_, _, rfl, rfl⟩, NH, PH, nofun, fun _ => hSr⟩⟩
    refine StepsU.cons ?_ ?_
    · intro Q E0 listed a w' hI hM hk haft K hK
      obtain ⟨b0, b1, b2, b3, b4, b5, b6, b7, b8, b9, b10, b11, b12, b13, b14, b15, b16, b17, b18, x5, x17, x20, x25, hh, r0, r1, r2, hl, ha, HF⟩ := hI
      subst hl; subst ha
      obtain ⟨N0, P0_0, N1, P1_0, N2, P2_0, NH, PH, Z, HS⟩ := HF.out
      clear HF
      have hk' : b17 = false := hk
      subst hk'
      clear hk
      obtain rfl : b18 = false := by cases b18 with | false => rfl | true => exact absurd (hM 18 17 rfl rfl) Bool.false_ne_true
      clear haft
      have hSr := HS rfl
      have hBl := hSr.bel
      obtain ⟨⟨q0, q1, q2, q3⟩, ⟨p0, p1, p2, p3⟩⟩ := HK.out w' hBl
      obtain rfl := NH rfl
      go_simp
      exact hK _ _ ⟨b0, b1, b2, b3, b4, b5, b6, b7, b8, b9, b10, b11, b12, b13, b14, b15, b16, true, false, .pointer (some ⟨w'.heap.size, 0, none⟩), _, _, _, some (w'.heap.size, .cells #[.int .i64 0, .slice none 0 0, .slice none 0 0, .slice none 0 0] 36 (0, 0)), _, _, _, rfl, rfl, Lib.hid ⟨N0, P0_0, N1, P1_0, N2, P2_0, nofun, fun _ _ => ⟨_, rfl, rfl⟩, nofun, fun _ => hSr.hdr _ _⟩⟩
    refine StepsU.cons ?_ ?_
    · intro Q E0 listed a w' hI hM hk haft K hK
      obtain ⟨b0, b1, b2, b3, b4, b5, b6, b7, b8, b9, b10, b11, b12, b13, b14, b15, b16, b17, b18, x5, x17, x20, x25, hh, r0, r1, r2, hl, ha, HF⟩ := hI
      subst hl; subst ha
      obtain ⟨N0, P0_0, N1, P1_0, N2, P2_0, NH, PH, Z, HS⟩ := HF.out
      clear HF
      have hk' : b18 = false := hk
      subst hk'
      clear hk
      obtain rfl : b16 = true := haft ⟨16, .data⟩ (by simp) rfl
      obtain rfl : b17 = true := haft ⟨17, .data⟩ (by simp) rfl
      obtain rfl : b0 = true := haft ⟨0, .phase⟩ (by simp) rfl
      obtain rfl : b1 = true := haft ⟨1, .phase⟩ (by simp) rfl
      obtain rfl : b2 = true := haft ⟨2, .phase⟩ (by simp) rfl
      obtain rfl : b3 = true := haft ⟨3, .phase⟩ (by simp) rfl
      obtain rfl : b4 = true := haft ⟨4, .phase⟩ (by simp) rfl
      obtain rfl : b5 = true := haft ⟨5, .phase⟩ (by simp) rfl
      obtain rfl : b6 = true := haft ⟨6, .phase⟩ (by simp) rfl
      obtain rfl : b7 = true := haft ⟨7, .phase⟩ (by simp) rfl
      obtain rfl : b8 = true := haft ⟨8, .phase⟩ (by simp) rfl
      obtain rfl : b9 = true := haft ⟨9, .phase⟩ (by simp) rfl
      obtain rfl : b10 = true := haft ⟨10, .phase⟩ (by simp) rfl
      obtain rfl : b11 = true := haft ⟨11, .phase⟩ (by simp) rfl
      obtain rfl : b12 = true := haft ⟨12, .phase⟩ (by simp) rfl
      obtain rfl : b13 = true := haft ⟨13, .phase⟩ (by simp) rfl
      obtain rfl : b14 = true := haft ⟨14, .phase⟩ (by simp) rfl
      obtain rfl : b15 = true := haft ⟨15, .phase⟩ (by simp) rfl
      clear haft
      obtain ⟨gh, rfl, rfl⟩ := PH rfl rfl
      obtain ⟨g7, c7, rfl, rfl⟩ := P0_0 rfl
      obtain ⟨g10, c10, rfl, rfl⟩ := P1_0 rfl
      obtain ⟨g15, c15, rfl, rfl⟩ := P2_0 rfl
      have hSr := HS rfl
      have hBl := hSr.bel
      obtain ⟨⟨q0, q1, q2, q3⟩, ⟨p0, p1, p2, p3⟩⟩ := HK.out w' hBl
      obtain ⟨hh1, hh2, hh3⟩ := hSr.hd _ _ rfl
      obtain ⟨e0, e1, e2, e3⟩ := blk4 hh1
      have g1 := blkFz hh1
      go_simp
      exact hK _ _ ⟨true, true, true, true, true, true, true, true, true, true, true, true, true, true, true, true, true, true, true, _, _, _, _, _, _, _, _, rfl, rfl, Lib.hid ⟨N0, fun _ => ⟨_, _, rfl, rfl⟩, N1, fun _ => ⟨_, _, rfl, rfl⟩, N2, fun _ => ⟨_, _, rfl, rfl⟩, NH, fun _ => nofun, fun _ => ⟨gh, _, _, _, rfl, by have := hz.out; omega, hSr.nst Hb0.out (A.states + B.states) (ms := sm) (fs := A.firsts) (es := be) (.inr (List.mem_of_getElem? (i := 0) rfl)) (List.mem_of_getElem? (i := 1) rfl) (List.mem_of_getElem? (i := 2) rfl) (fun b hb => hSr.neq (i := 1) (j := 2) (by omega) rfl rfl b hb), blk_st4 (blkBel hBl k0.out) (by have := hz.out; omega), blk_st4 (blkBel hBl k1.out) (by have := hz.out; omega), blk_st4 (blkBel hBl k2.out) (by have := hz.out; omega)⟩, nofun⟩⟩
    exact StepsU.nil
  · intro G0 hG0 listed a w' hI hall
    obtain ⟨b0, b1, b2, b3, b4, b5, b6, b7, b8, b9, b10, b11, b12, b13, b14, b15, b16, b17, b18, x5, x17, x20, x25, hh, r0, r1, r2, hl, ha, HF⟩ := hI
    subst hl; subst ha
    obtain rfl : b0 = true := hall 0 (by decide)
    obtain rfl : b1 = true := hall 1 (by decide)
    obtain rfl : b2 = true := hall 2 (by decide)
    obtain rfl : b3 = true := hall 3 (by decide)
    obtain rfl : b4 = true := hall 4 (by decide)
    obtain rfl : b5 = true := hall 5 (by decide)
    obtain rfl : b6 = true := hall 6 (by decide)
    obtain rfl : b7 = true := hall 7 (by decide)
    obtain rfl : b8 = true := hall 8 (by decide)
    obtain rfl : b9 = true := hall 9 (by decide)
    obtain rfl : b10 = true := hall 10 (by decide)
    obtain rfl : b11 = true := hall 11 (by decide)
    obtain rfl : b12 = true := hall 12 (by decide)
    obtain rfl : b13 = true := hall 13 (by decide)
    obtain rfl : b14 = true := hall 14 (by decide)
    obtain rfl : b15 = true := hall 15 (by decide)
    obtain rfl : b16 = true := hall 16 (by decide)
    obtain rfl : b17 = true := hall 17 (by decide)
    obtain rfl : b18 = true := hall 18 (by decide)
    exact hG0 _ _ _ _ _ (HF.out.2.2.2.2.2.2.2.2.1 rfl)
  · intro x5 x17 x20 x25 w' hFin
    obtain ⟨g, vm, vf, ve, rfl, hgw, hs, h0, h1, h2⟩ := hFin
    clear HK
    have HLN := Lib.hid (show A.ends.length ≤ 40 ∧ B.firsts.length ≤ 40 from ⟨by have := HLA.out; omega, by have := HLB.out; omega⟩)
    have HM0 : Hid (sm.length ≤ 800) := Lib.hid HSL.out.1
    have HD : Hid (joinD A B = ⟨A.states + B.states, sm ++ links A.states A.ends B.firsts, A.firsts, be⟩) := Lib.hid (by rw [← HSM.out, ← HBE.out]; rfl)
    have HS := Lib.hid hs; have K0 := Lib.hid h0; have K1 := Lib.hid h1; have K2 := Lib.hid h2; have Hgw := Lib.hid hgw; clear hs h0 h1 h2 hgw
    obtain ⟨c0, d1, d2, d3⟩ := blk4 K0.out
    go_wp2_with fail
    clear c0 d1 d2 d3
    go_loopw [30] (fun i wr => ∃ (o : Nat) (vm : Value), o ≤ A.ends.length ∧ i = .int .i64 o ∧ Hid (NSt w wr g w.heap.size (A.states + B.states) vm vf ve (sm ++ links A.states (A.ends.take o) B.firsts) A.firsts be) ∧ Hid (wr.heap[w.heap.size]? = some (.cells #[.int .i64 A.states, .slice a1a A.moves.length c1a, .slice a2a A.firsts.length c2a, .slice a3a A.ends.length c3a] 36 (0, 0))) ∧ Hid (wr.heap[w.heap.size + 1]? = some (.cells #[.int .i64 B.states, .slice a1b B.moves.length c1b, .slice a2b B.firsts.length c2b, .slice a3b B.ends.length c3b] 36 (0, 0))) ∧ Hid (wr.heap[w.heap.size + 2]? = some (.cells #[.int .i64 0, .slice none 0 0, .slice none 0 0, .slice none 0 0] 36 (0, 0)))) (fun i _ => A.ends.length - (intOf i).toNat)
    case atStart => exact ⟨0, _, by omega, rfl, by rw [show sm ++ links A.states (A.ends.take 0) B.firsts = sm by simp [links]]; exact HS, K0, K1, K2⟩
    case round =>
      obtain ⟨o, vm, ho, rfl, hs, h0, h1, h2⟩ := hrel
      clear HS K0 K1 K2
      by_cases hlto : o < A.ends.length
      · obtain ⟨bo, oo, rfl, mo⟩ := ((HA0.out.2.2).stay (kpB hs.out.bel)).at hlto
        have Hso := Lib.hid (links_step A.states A.ends B.firsts hlto)
        obtain ⟨xo, hxo⟩ : ∃ xo, xo = A.ends[o] := ⟨_, rfl⟩
        rw [← hxo] at mo Hso
        clear hxo
        obtain ⟨MK, hMK⟩ : ∃ MK, MK = sm ++ links A.states (A.ends.take o) B.firsts := ⟨_, rfl⟩
        rw [← hMK] at hs
        have HMK : Hid (MK.length ≤ 10000) := Lib.hid (by rw [hMK, List.length_append, links_len, List.length_take]; have h1 := HM0.out; have h2 := HLN.out; have : min o A.ends.length * B.firsts.length ≤ 40 * 40 := Nat.mul_le_mul (by omega) h2.2; omega)
        have HMS : Hid (sm ++ links A.states (A.ends.take (o + 1)) B.firsts = MK ++ B.firsts.map (fun t => (xo, -1, t + A.states))) := Lib.hid (by rw [hMK, Hso.out, List.append_assoc])
        clear hMK Hso
        have HS := hs; have K0 := h0; have K1 := h1; have K2 := h2; clear hs h0 h1 h2
        obtain ⟨c0, d1, d2, d3⟩ := blk4 K1.out
        go_wp2_with fail
        clear c0 d1 d2 d3 mo
        go_loopw [37] (fun i wr => ∃ (k : Nat) (vm : Value), k ≤ B.firsts.length ∧ i = .int .i64 k ∧ Hid (NSt w wr g w.heap.size (A.states + B.states) vm vf ve (MK ++ (B.firsts.take k).map (fun t : Int => ((xo, -1, t + A.states) : Int × Int × Int))) A.firsts be) ∧ Hid (wr.heap[w.heap.size]? = some (.cells #[.int .i64 A.states, .slice a1a A.moves.length c1a, .slice a2a A.firsts.length c2a, .slice (some ⟨bo, oo, none⟩) A.ends.length c3a] 36 (0, 0))) ∧ Hid (wr.heap[w.heap.size + 1]? = some (.cells #[.int .i64 B.states, .slice a1b B.moves.length c1b, .slice a2b B.firsts.length c2b, .slice a3b B.ends.length c3b] 36 (0, 0))) ∧ Hid (wr.heap[w.heap.size + 2]? = some (.cells #[.int .i64 0, .slice none 0 0, .slice none 0 0, .slice none 0 0] 36 (0, 0)))) (fun i _ => B.firsts.length - (intOf i).toNat)
        case atStart => exact ⟨0, _, by omega, rfl, by rw [List.take_zero, List.map_nil, List.append_nil]; exact HS, K0, K1, K2⟩
        case round =>
          obtain ⟨k, vm, hk, rfl, hs, h0, h1, h2⟩ := hrel
          clear HS K0 K1 K2
          obtain ⟨c0, d1, d2, d3⟩ := blk4 h0.out
          by_cases hlt : k < B.firsts.length
          · obtain ⟨b, off, rfl, m0⟩ := ((HB0.out.2.1).stay (kpB hs.out.bel)).at hlt
            have Hst := Lib.hid (map_take_step (fun t : Int => ((xo, -1, t + A.states) : Int × Int × Int)) B.firsts hlt)
            obtain ⟨x, hx⟩ : ∃ x, x = B.firsts[k] := ⟨_, rfl⟩
            rw [← hx] at m0 Hst
            have Hx := Lib.hid (hx ▸ List.getElem_mem hlt : x ∈ B.firsts); clear hx
            have hwx : IntKind.i64.wrap (x + A.states) = x + A.states := IntWalk.i64_in _ (by have := HRB.out.1 x Hx.out; have := hsA.out; omega)
            obtain ⟨ms, hms⟩ : ∃ ms, ms = MK ++ (B.firsts.take k).map (fun t : Int => ((xo, -1, t + A.states) : Int × Int × Int)) := ⟨_, rfl⟩
            have Hms : Hid (MK ++ (B.firsts.take (k + 1)).map (fun t : Int => ((xo, -1, t + A.states) : Int × Int × Int)) = ms ++ [(xo, -1, x + A.states)]) := Lib.hid (by rw [hms, Hst.out, List.append_assoc])
            rw [← hms] at hs
            have hml := Lib.hid (show ms.length ≤ 1000000000 from by rw [hms]; simp only [List.length_append, List.length_map, List.length_take]; have := HLN.out; have := HMK.out; omega)
            clear hms Hst
            obtain ⟨e0, e1, e2, e3⟩ := blk4 hs.out.hd
            go_wp2_with (at_builtin; refine app3 elMove (by decide) rfl (.tmp 42) (.tmp 49) rfl w.heap.size vm ms _ _ _ wr rfl rfl rfl hs.out.mv hml.out hs.out.sz ?_; intro v1 w6 h6 hg6; obtain ⟨a1', n1', ca1', rfl⟩ := h6.out.sl; obtain ⟨f0, f1, f2, f3⟩ := blk4 (hs.out.hdM hg6); have f4 := blkFz (hs.out.hdM hg6) 1)
            have hn := hs.out.addM hg6 h6.out
            have hw0 := blkGrow hg6 h0.out (fun e => ownNe hs.out.mv h0.out (by decide) e.symm)
            have hw1 := blkGrow hg6 h1.out (fun e => ownNe hs.out.mv h1.out (by decide) e.symm)
            have hw2 := blkGrow hg6 h2.out (fun e => ownNe hs.out.mv h2.out (by decide) e.symm)
            go_roundw
            case rel => exact ⟨k + 1, _, by omega, by go_num, by rw [Hms.out]; exact hn, blkSet hw0 (by have := Hgw.out; omega), blkSet hw1 (by have := Hgw.out; omega), blkSet hw2 (by have := Hgw.out; omega)⟩
            case measure => simp [intOf]; omega
          · obtain rfl : k = B.firsts.length := by omega
            rw [List.take_length] at hs
            clear c0 d1 d2 d3 hlt hk
            rw [← HMS.out] at hs
            go_wp2
            go_roundw
            case rel => exact ⟨o + 1, vm, by omega, by go_num, hs, h0, h1, h2⟩
            case measure => simp [intOf]; omega
      · obtain rfl : o = A.ends.length := by omega
        rw [List.take_length] at hs
        obtain ⟨a1', n1', ca1', rfl⟩ := hs.out.mv.sl
        obtain ⟨a2', n2', ca2', rfl⟩ := hs.out.fs.sl
        obtain ⟨a3', n3', ca3', rfl⟩ := hs.out.en.sl
        obtain ⟨e0, e1, e2, e3⟩ := blk4 hs.out.hd
        obtain ⟨f0, f1, f2, f3⟩ := blk4 h2.out
        have g1 := blkFz h2.out
        go_wp2
        refine bodyPost_ret (v := .agg #[.int .i64 (A.states + B.states), .slice a1' n1' ca1', .slice a2' n2' ca2', .slice a3' n3' ca3']) (by simp [results, Try.results167, go_sem, f0, f1, f2, f3, g1]) rfl ⟨_, _, _, rfl, ?_, ?_⟩
        · exact bel4 hs.out.bel (by omega) _ _ _ _
        · rw [HD.out]; exact hs.out.o.set4 _ (by omega) h2.out (by decide) _ _ _ _
end Go.Proofs.Ytnjddneelkdmoaa
