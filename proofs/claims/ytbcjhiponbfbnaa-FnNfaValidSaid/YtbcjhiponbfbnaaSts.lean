/- NfaStar: the reference's answer. -/
import Derived.Test.YtbcjhiponbfbnaaSti
set_option linter.unusedSimpArgs false
set_option linter.unusedVariables false
set_option linter.unusedSectionVars false
namespace Go.Proofs.Ytbcjhiponbfbnaa
open Go.RowKit
set_option maxRecDepth 100000
variable {S T : Nat → Prop}
/-- The header of an automaton with two lists of one state. -/
theorem mkNSt {w w2 : World} {vm : Value} {ms : List (Int × Int × Int)} (hb : Below w.heap.size w w2) (hm : Own3 w2 w.heap.size 40 vm ms) (n m N : Int) :
    NSt w (((w2.alloc (.cells #[.int .i64 n] 3)).alloc (.cells #[.int .i64 m] 3)).alloc (.cells #[.int .i64 N, vm, .slice (some ⟨w2.heap.size, 0, none⟩) 1 1, .slice (some ⟨w2.heap.size + 1, 0, none⟩) 1 1] 36)) (w2.heap.size + 1 + 1) w.heap.size N vm (.slice (some ⟨w2.heap.size, 0, none⟩) 1 1) (.slice (some ⟨w2.heap.size + 1, 0, none⟩) 1 1) ms [n] [m] := by
  have hs := hb.size
  have b1 : Below w2.heap.size w2 (((w2.alloc (.cells #[.int .i64 n] 3)).alloc (.cells #[.int .i64 m] 3)).alloc (.cells #[.int .i64 N, vm, .slice (some ⟨w2.heap.size, 0, none⟩) 1 1, .slice (some ⟨w2.heap.size + 1, 0, none⟩) 1 1] 36)) :=
    (((Below.refl _ _).alloc (Nat.le_refl _) _).alloc (by simp) _).alloc (by simp; omega) _
  refine ⟨hb.trans (b1.mono hs), Nat.le_trans hs (by omega), blkNew _ _ (by simp), ownStay hm b1, ?_, ?_, ⟨Nat.le_refl _, by simp; omega⟩, fun b h1 h2 => ?_⟩
  · exact ownStay (ownStay (ownLit (n := 1) [_] hs (by omega) rfl) ((Below.refl _ _).alloc (Nat.le_refl _) _)) ((Below.refl _ _).alloc (Nat.le_refl _) _)
  · have : OwnI ((w2.alloc (.cells #[.int .i64 n] 3)).alloc (.cells #[.int .i64 m] 3)) w.heap.size (.slice (some ⟨(w2.alloc (.cells #[.int .i64 n] 3)).heap.size, 0, none⟩) 1 1) [m] := ownLit (n := 1) [_] (by simp; omega) (by omega) rfl
    rw [World.size_alloc] at this
    exact ownStay this ((Below.refl _ _).alloc (Nat.le_refl _) _)
  · cases h1
    have : w2.heap.size + 1 = w2.heap.size := by injection h2
    omega
set_option maxHeartbeats 4000000 in
theorem sNfaStar_c (vm vf ve : Value) (D : NfaD) (w : World) (h : NfaR S w vm vf ve D) : Calls Try.prog 136 #[.agg #[.int .i64 D.states, vm, vf, ve]] w (RNb w (stN D) (stB D)) := by
  obtain ⟨a1, c1, a2, c2, a3, c3, rfl, rfl, rfl, hn1, hn2, hn3⟩ := h.shapes
  obtain ⟨W, hW⟩ : ∃ W, W = (w.alloc (.cells #[.int .i64 D.states, .slice a1 D.moves.length c1, .slice a2 D.firsts.length c2, .slice a3 D.ends.length c3] 36)).alloc (.cells #[.int .i64 0, .slice none 0 0, .slice none 0 0, .slice none 0 0] 36) := ⟨_, rfl⟩
  have Hb0 : Hid (Below w.heap.size w W) := by rw [hW]; exact ((Below.refl _ _).alloc (Nat.le_refl _) _).alloc (by simp) _
  have k0 : Hid (W.heap[w.heap.size]? = some (.cells #[.int .i64 D.states, .slice a1 D.moves.length c1, .slice a2 D.firsts.length c2, .slice a3 D.ends.length c3] 36 (0, 0))) := by rw [hW]; exact blkOld (blkNew _ _ rfl)
  have k1 : Hid (W.heap[w.heap.size + 1]? = some (.cells #[.int .i64 0, .slice none 0 0, .slice none 0 0, .slice none 0 0] 36 (0, 0))) := by rw [hW]; exact blkNew _ _ (by simp)
  have hz : Hid (W.heap.size = w.heap.size + 2) := by rw [hW]; simp [Hid]
  have H0 := Lib.hid h; clear h
  have HW := Lib.hid hW; clear hW
  go_enter Try.func136, Try.ntmps136
  go_wp2_with fail
  rw [← HW.out]
  clear HW
  obtain ⟨c0, d1, d2, d3⟩ := blk4 k0.out
  go_wp2_with fail
  clear c0 d1 d2 d3
  refine (sNfaValid_c _ _ _ D W (H0.out.stay (kpB Hb0.out))).mono ?_
  rintro e w1 ⟨b1, rfl, hb, hv⟩
  replace Hb0 := Lib.hid (Hb0.out.trans (hb.mono Hb0.out.size))
  replace k0 := Lib.hid (blkBel hb k0.out)
  replace k1 := Lib.hid (blkBel hb k1.out)
  have hz1 := hb.size; clear hb
  cases b1
  · have hno := hbF hv; clear hv
    have HN := Lib.hid (stN_no hno); have HB := Lib.hid (stB_no hno); clear hno
    obtain ⟨e0, e1, e2, e3⟩ := blk4 k1.out
    have g1 := blkFz k1.out
    go_wp2
    refine bodyPost_ret (v := .tuple #[.agg #[.int .i64 0, .slice none 0 0, .slice none 0 0, .slice none 0 0], .bool false]) (by simp [results, Try.results136, go_sem, e0, e1, e2, e3, g1]) rfl ⟨_, _, _, by rw [HN.out, HB.out]; rfl, bel4 Hb0.out (by omega) _ _ _ _, by rw [HN.out]; exact NfaO.nil _ _⟩
  have hD := hbT hv; clear hv
  have HN := Lib.hid (stN_yes hD); have HB := Lib.hid (stB_yes hD)
  have hwr : IntKind.i64.wrap (D.states + 1) = D.states + 1 := IntWalk.i64_in _ (by have := hD.1; omega)
  have HLN := Lib.hid (okN_len hD)
  clear hD
  obtain ⟨w2, hw2⟩ : ∃ z, z = w1.alloc (.cells #[] 40) := ⟨_, rfl⟩
  have hb2 : Below w1.heap.size w1 w2 := by rw [hw2]; exact (Below.refl _ _).alloc (Nat.le_refl _) _
  have HO2 : Hid (Own3 w2 w.heap.size 40 (.slice (some ⟨w1.heap.size, 0, none⟩) 0 0) []) := by rw [hw2]; exact ownLit (n := 0) [] Hb0.out.size (by omega) rfl
  have HW2 := Lib.hid hw2; clear hw2
  have hbs1 := Hb0.out.size
  have k0' := k0
  replace Hb0 := Lib.hid (Hb0.out.trans (hb2.mono hbs1))
  replace k0 := Lib.hid (blkBel hb2 k0.out)
  replace k1 := Lib.hid (blkBel hb2 k1.out)
  have HM2 := Lib.hid ((H0.out.stay (kpB Hb0.out)).1)
  have hbs2 := Hb0.out.size
  clear hb2
  obtain ⟨c0, d1, d2, d3⟩ := blk4 k0.out
  obtain ⟨c0', _, _, _⟩ := blk4 k0'.out
  go_wp2_with (first | (at_builtin; refine appMany (S := S) elMove (by decide) rfl (.tmp 16) (.tmp 18) rfl w.heap.size _ _ 0 D.moves.length [] (cells3 D.moves) w2 rfl rfl HO2.out HM2.out (by rw [length_cells3]; omega) (cells3_one _) (by have := HLN.out; omega) hbs2 ?_; intro v2 w3 h2 hg2; have hO3 : Own3 w3 w.heap.size 40 v2 D.moves := (by have := h2.out; rw [Nat.zero_add] at this; exact this); obtain ⟨a1', n1', ca1', rfl⟩ := hO3.sl) | (rw [← HW2.out]))
  obtain ⟨W4, hW4⟩ : ∃ z, z = (((w3.alloc (.cells #[.int .i64 D.states] 3)).alloc (.cells #[.int .i64 D.states] 3)).alloc (.cells #[.int .i64 (D.states + 1), .slice a1' n1' ca1', .slice (some ⟨w3.heap.size, 0, none⟩) 1 1, .slice (some ⟨w3.heap.size + 1, 0, none⟩) 1 1] 36)) := ⟨_, rfl⟩
  have hb3 := Hb0.out.grown hg2 hbs2 (fun k hk => (World.ownsRow.lt HO2.out k hk).1)
  have HS : Hid (NSt w W4 (w3.heap.size + 1 + 1) w.heap.size (D.states + 1) (.slice a1' n1' ca1') (.slice (some ⟨w3.heap.size, 0, none⟩) 1 1) (.slice (some ⟨w3.heap.size + 1, 0, none⟩) 1 1) D.moves [D.states] [D.states]) := by rw [hW4]; exact mkNSt hb3 hO3 _ _ _
  have hb34 : Below w3.heap.size w3 W4 := by rw [hW4]; exact (((Below.refl _ _).alloc (Nat.le_refl _) _).alloc (by simp) _).alloc (by simp; omega) _
  have hz3 : w.heap.size + 2 ≤ w3.heap.size := by have h1 := hg2.size; have h2 := (Array.getElem?_eq_some_iff.1 k1.out).1; omega
  have K0 : Hid (W4.heap[w.heap.size]? = some (.cells #[.int .i64 D.states, .slice a1 D.moves.length c1, .slice a2 D.firsts.length c2, .slice a3 D.ends.length c3] 36 (0, 0))) := blkBel hb34 (blkGrow hg2 k0.out (fun e => ownNe HO2.out k0.out (by decide) e.symm))
  have K1 : Hid (W4.heap[w.heap.size + 1]? = some (.cells #[.int .i64 0, .slice none 0 0, .slice none 0 0, .slice none 0 0] 36 (0, 0))) := blkBel hb34 (blkGrow hg2 k1.out (fun e => ownNe HO2.out k1.out (by decide) e.symm))
  rw [← hW4]
  clear hW4 hb34 hb3 hO3 hg2 h2 HO2 HM2 HW2 c0 d1 d2 d3 c0' k0 k0' k1 Hb0 hbs1 hbs2
  obtain ⟨g, hg⟩ : ∃ g, g = w3.heap.size + 1 + 1 := ⟨_, rfl⟩
  have Hgw : Hid (w.heap.size + 1 < g) := Lib.hid (by omega)
  rw [← hg] at HS ⊢
  clear hg hz3
  generalize Value.slice (some ⟨w3.heap.size, 0, none⟩) 1 1 = vf at *
  generalize Value.slice (some ⟨w3.heap.size + 1, 0, none⟩) 1 1 = ve at *
  go_loopw [6] (fun i wr => ∃ (k : Nat) (vm : Value), k ≤ D.firsts.length ∧ i = .int .i64 k ∧ Hid (NSt w wr g w.heap.size (D.states + 1) vm vf ve (D.moves ++ (D.firsts.take k).map (fun t : Int => ((D.states, -1, t) : Int × Int × Int))) [D.states] [D.states]) ∧ Hid (wr.heap[w.heap.size]? = some (.cells #[.int .i64 D.states, .slice a1 D.moves.length c1, .slice a2 D.firsts.length c2, .slice a3 D.ends.length c3] 36 (0, 0))) ∧ Hid (wr.heap[w.heap.size + 1]? = some (.cells #[.int .i64 0, .slice none 0 0, .slice none 0 0, .slice none 0 0] 36 (0, 0)))) (fun i _ => D.firsts.length - (intOf i).toNat)
  case atStart => exact ⟨0, _, by omega, rfl, by rw [List.take_zero, List.map_nil, List.append_nil]; exact HS, K0, K1⟩
  case round =>
    obtain ⟨k, vm, hk, rfl, hs, h0, h1⟩ := hrel
    clear HS K0 K1
    obtain ⟨c0, d1, d2, d3⟩ := blk4 h0.out
    by_cases hlt : k < D.firsts.length
    · obtain ⟨b, off, rfl, m0⟩ := ((H0.out.2.1).stay (kpB hs.out.bel)).at hlt
      have Hst := Lib.hid (map_take_step (fun t : Int => ((D.states, -1, t) : Int × Int × Int)) D.firsts hlt)
      obtain ⟨x, hx⟩ : ∃ x, x = D.firsts[k] := ⟨_, rfl⟩
      rw [← hx] at m0 Hst
      have Hx := Lib.hid (hx ▸ List.getElem_mem hlt : x ∈ D.firsts); clear hx
      obtain ⟨ms, hms⟩ : ∃ ms, ms = D.moves ++ (D.firsts.take k).map (fun t : Int => ((D.states, -1, t) : Int × Int × Int)) := ⟨_, rfl⟩
      have Hms : Hid (D.moves ++ (D.firsts.take (k + 1)).map (fun t : Int => ((D.states, -1, t) : Int × Int × Int)) = ms ++ [(D.states, -1, x)]) := Lib.hid (by rw [hms, Hst.out, List.append_assoc])
      rw [← hms] at hs
      have hml := Lib.hid (show ms.length ≤ 1000000000 from by rw [hms]; simp only [List.length_append, List.length_map, List.length_take]; have := HLN.out; omega)
      clear hms Hst
      obtain ⟨am, cm, hvm, _⟩ := hs.out.mv.shape
      obtain ⟨nm, hnm⟩ : ∃ nm, nm = ms.length := ⟨_, rfl⟩
      rw [← hnm] at hvm
      have Hnm := Lib.hid hnm; clear hnm
      subst hvm
      obtain ⟨e0, e1, e2, e3⟩ := blk4 hs.out.hd
      have HXD := Lib.hid (hs.out.stay (Below.refl _ _).drew)
      have h02 : Hid (wr.drew.heap[w.heap.size]? = _) := h0
      have h12 : Hid (wr.drew.heap[w.heap.size + 1]? = _) := h1
      have c0D : wr.drew.cell? ⟨w.heap.size, 0, none⟩ = _ := c0
      have d1D : wr.drew.cell? ⟨w.heap.size, 1, none⟩ = _ := d1
      have d2D : wr.drew.cell? ⟨w.heap.size, 2, none⟩ = _ := d2
      have d3D : wr.drew.cell? ⟨w.heap.size, 3, none⟩ = _ := d3
      have e1D : wr.drew.cell? ⟨g, 1, none⟩ = _ := e1
      have m0D : wr.drew.cell? ⟨b, off + k, none⟩ = _ := m0
      have hltI : (k : Int) < (D.firsts.length : Int) := by omega
      have hk0 : (0 : Int) ≤ (k : Int) := Int.natCast_nonneg _
      go_wp2_with fail
      refine wp_region_inv2 [(1, 0), (4, 3), (6, 4), (6, 5), (7, 6), (8, 2), (8, 7), (9, 8), (10, 1), (10, 9), (12, 10), (12, 11)] (fun listed a w' => ∃ (b0 b1 b2 b3 b4 b5 b6 b7 b8 b9 b10 b11 b12 : Bool) (x41 x42 : Value), listed = #[b0, b1, b2, b3, b4, b5, b6, b7, b8, b9, b10, b11, b12] ∧ a = { tmps := #[Value.agg #[Value.int IntKind.i64 D.states, Value.slice a1 D.moves.length c1, Value.slice (some { block := b, off := off }) D.firsts.length c2, Value.slice a3 D.ends.length c3], Value.pointer (some { block := w.heap.size, off := 0 }), Value.pointer (some { block := w.heap.size + 1, off := 0 }), Value.bool false, Value.int IntKind.i64 D.states, Value.pointer (some { block := g, off := 0 }), Value.int IntKind.i64 ↑k, undef, Value.agg #[Value.int IntKind.i64 D.states, Value.slice a1 D.moves.length c1, Value.slice (some { block := b, off := off }) D.firsts.length c2, Value.slice a3 D.ends.length c3], Value.bool true, Value.bool false, undef, Value.pointer (some { block := w.heap.size, off := 0 }), Value.int IntKind.i64 D.states, Value.int IntKind.i64 D.states, Value.int IntKind.i64 (D.states + 1), Value.slice (some { block := w1.heap.size, off := 0 }) 0 0, Value.pointer (some { block := w.heap.size, off := 1 }), Value.slice a1 D.moves.length c1, Value.slice a1' n1' ca1', Value.int IntKind.i64 D.states, vf, Value.int IntKind.i64 D.states, ve, Value.agg #[Value.int IntKind.i64 (D.states + 1), Value.slice a1' n1' ca1', vf, ve], Value.int IntKind.i64 ↑k, Value.pointer (some { block := w.heap.size, off := 2 }), Value.slice (some { block := b, off := off }) D.firsts.length c2, Value.int IntKind.i64 ↑D.firsts.length, Value.bool true, u30, u31, cond b0 (.pointer (some ⟨g, 1, none⟩)) (u32), cond b1 (.slice am nm cm) (u33), cond b2 (.int .i64 D.states) (u34), cond b3 (.pointer (some ⟨w.heap.size, 2, none⟩)) (u35), cond b4 (.slice (some ⟨b, off, none⟩) D.firsts.length c2) (u36), cond b5 (.int .i64 k) (u37), cond b6 (.pointer (some ⟨b, off + k, none⟩)) (u38), cond b7 (.int .i64 x) (u39), cond b8 (.agg #[.int .i64 D.states, .int .i64 (-1), .int .i64 x]) (u40), x41, x42, cond b11 (.pointer (some ⟨g, 1, none⟩)) (u43), undef, undef, undef, undef, undef, undef, undef, undef, undef, undef, undef, undef, undef, undef, undef, undef, undef, undef, undef, undef, undef, undef, undef], defers := [] } ∧ Hid ((b9 = false → w' = wr.drew) ∧ (b9 = true → b10 = false → (w' = (wr.drew.alloc (.cells #[.int .i64 D.states, .int .i64 (-1), .int .i64 x] 40)) ∧ x41 = .slice (some ⟨wr.heap.size, 0, none⟩) 1 1)) ∧ (b10 = true → b12 = false → (∃ (g7 : Nat) (cap7 : Nat), x42 = .slice (some ⟨g7, 0, none⟩) (ms.length + 1) cap7 ∧ Own3 w' w.heap.size 40 (.slice (some ⟨g7, 0, none⟩) (ms.length + 1) cap7) (ms ++ [(D.states, -1, x)]) ∧ wr.drew.grownBy w' (Value.slice am nm cm).ownBlock)) ∧ (b12 = true → (∃ vm', NSt w w' g w.heap.size (D.states + 1) vm' vf ve (ms ++ [(D.states, -1, x)]) [D.states] [D.states] ∧ w'.heap[w.heap.size]? = some (.cells #[.int .i64 D.states, .slice a1 D.moves.length c1, .slice (some ⟨b, off, none⟩) D.firsts.length c2, .slice a3 D.ends.length c3] 36 (0, 0)) ∧ w'.heap[w.heap.size + 1]? = some (.cells #[.int .i64 0, .slice none 0 0, .slice none 0 0, .slice none 0 0] 36 (0, 0)))))) (fun G => ∀ (x41 x42 : Value) (w' : World), ((∃ vm', NSt w w' g w.heap.size (D.states + 1) vm' vf ve (ms ++ [(D.states, -1, x)]) [D.states] [D.states] ∧ w'.heap[w.heap.size]? = some (.cells #[.int .i64 D.states, .slice a1 D.moves.length c1, .slice (some ⟨b, off, none⟩) D.firsts.length c2, .slice a3 D.ends.length c3] 36 (0, 0)) ∧ w'.heap[w.heap.size + 1]? = some (.cells #[.int .i64 0, .slice none 0 0, .slice none 0 0, .slice none 0 0] 36 (0, 0)))) → G { tmps := #[Value.agg #[Value.int IntKind.i64 D.states, Value.slice a1 D.moves.length c1, Value.slice (some { block := b, off := off }) D.firsts.length c2, Value.slice a3 D.ends.length c3], Value.pointer (some { block := w.heap.size, off := 0 }), Value.pointer (some { block := w.heap.size + 1, off := 0 }), Value.bool false, Value.int IntKind.i64 D.states, Value.pointer (some { block := g, off := 0 }), Value.int IntKind.i64 ↑k, undef, Value.agg #[Value.int IntKind.i64 D.states, Value.slice a1 D.moves.length c1, Value.slice (some { block := b, off := off }) D.firsts.length c2, Value.slice a3 D.ends.length c3], Value.bool true, Value.bool false, undef, Value.pointer (some { block := w.heap.size, off := 0 }), Value.int IntKind.i64 D.states, Value.int IntKind.i64 D.states, Value.int IntKind.i64 (D.states + 1), Value.slice (some { block := w1.heap.size, off := 0 }) 0 0, Value.pointer (some { block := w.heap.size, off := 1 }), Value.slice a1 D.moves.length c1, Value.slice a1' n1' ca1', Value.int IntKind.i64 D.states, vf, Value.int IntKind.i64 D.states, ve, Value.agg #[Value.int IntKind.i64 (D.states + 1), Value.slice a1' n1' ca1', vf, ve], Value.int IntKind.i64 ↑k, Value.pointer (some { block := w.heap.size, off := 2 }), Value.slice (some { block := b, off := off }) D.firsts.length c2, Value.int IntKind.i64 ↑D.firsts.length, Value.bool true, u30, u31, .pointer (some ⟨g, 1, none⟩), .slice am nm cm, .int .i64 D.states, .pointer (some ⟨w.heap.size, 2, none⟩), .slice (some ⟨b, off, none⟩) D.firsts.length c2, .int .i64 k, .pointer (some ⟨b, off + k, none⟩), .int .i64 x, .agg #[.int .i64 D.states, .int .i64 (-1), .int .i64 x], x41, x42, .pointer (some ⟨g, 1, none⟩), undef, undef, undef, undef, undef, undef, undef, undef, undef, undef, undef, undef, undef, undef, undef, undef, undef, undef, undef, undef, undef, undef, undef], defers := [] } w') (by kernel_rfl) (by kernel_rfl) (by kernel_rfl) (by kernel_rfl) ?_ ?_ ?_ ?_
      · exact ⟨false, false, false, false, false, false, false, false, false, false, false, false, false, u41, u42, rfl, rfl, Lib.hid ⟨fun _ => rfl, nofun, nofun, nofun⟩⟩
      · refine StepsU.cons ?_ ?_
        · intro Q E0 listed a w' hI hM hk haft K hK
          obtain ⟨b0, b1, b2, b3, b4, b5, b6, b7, b8, b9, b10, b11, b12, x41, x42, hl, ha, HF⟩ := hI
          subst hl; subst ha
          obtain ⟨G, G9, G10, G12⟩ := HF.out
          clear HF
          have hk' : b0 = false := hk
          subst hk'
          clear hk
          obtain rfl : b1 = false := by cases b1 with | false => rfl | true => exact absurd (hM 1 0 rfl rfl) Bool.false_ne_true
          obtain rfl : b10 = false := by cases b10 with | false => rfl | true => exact absurd (hM 10 1 rfl rfl) Bool.false_ne_true
          obtain rfl : b12 = false := by cases b12 with | false => rfl | true => exact absurd (hM 12 10 rfl rfl) Bool.false_ne_true
          clear haft
          go_simp
          exact hK _ _ ⟨true, false, b2, b3, b4, b5, b6, b7, b8, b9, false, b11, false, _, _, rfl, rfl, Lib.hid ⟨G, G9, nofun, nofun⟩⟩
        refine StepsU.cons ?_ ?_
        · intro Q E0 listed a w' hI hM hk haft K hK
          obtain ⟨b0, b1, b2, b3, b4, b5, b6, b7, b8, b9, b10, b11, b12, x41, x42, hl, ha, HF⟩ := hI
          subst hl; subst ha
          obtain ⟨G, G9, G10, G12⟩ := HF.out
          clear HF
          have hk' : b1 = false := hk
          subst hk'
          clear hk
          obtain rfl : b10 = false := by cases b10 with | false => rfl | true => exact absurd (hM 10 1 rfl rfl) Bool.false_ne_true
          obtain rfl : b12 = false := by cases b12 with | false => rfl | true => exact absurd (hM 12 10 rfl rfl) Bool.false_ne_true
          obtain rfl : b0 = true := haft ⟨0, .data⟩ (by simp) rfl
          clear haft
          have e1W : w'.cell? ⟨g, 1, none⟩ = some (.slice am nm cm) := by cases b9 with | false => (rw [G rfl]; exact e1D) | true => (rw [(G9 rfl rfl).1]; exact kpAlloc (S := fun _ => True) _ _ trivial e1D)
          go_simp
          exact hK _ _ ⟨true, true, b2, b3, b4, b5, b6, b7, b8, b9, false, b11, false, _, _, rfl, rfl, Lib.hid ⟨G, G9, nofun, nofun⟩⟩
        refine StepsU.cons ?_ ?_
        · intro Q E0 listed a w' hI hM hk haft K hK
          obtain ⟨b0, b1, b2, b3, b4, b5, b6, b7, b8, b9, b10, b11, b12, x41, x42, hl, ha, HF⟩ := hI
          subst hl; subst ha
          obtain ⟨G, G9, G10, G12⟩ := HF.out
          clear HF
          have hk' : b2 = false := hk
          subst hk'
          clear hk
          obtain rfl : b8 = false := by cases b8 with | false => rfl | true => exact absurd (hM 8 2 rfl rfl) Bool.false_ne_true
          obtain rfl : b9 = false := by cases b9 with | false => rfl | true => exact absurd (hM 9 8 rfl rfl) Bool.false_ne_true
          obtain rfl : b10 = false := by cases b10 with | false => rfl | true => exact absurd (hM 10 9 rfl rfl) Bool.false_ne_true
          obtain rfl : b12 = false := by cases b12 with | false => rfl | true => exact absurd (hM 12 10 rfl rfl) Bool.false_ne_true
          clear haft
          obtain rfl := G rfl
          go_simp
          exact hK _ _ ⟨b0, b1, true, b3, b4, b5, b6, b7, false, false, false, b11, false, _, _, rfl, rfl, Lib.hid ⟨fun _ => rfl, nofun, nofun, nofun⟩⟩
        refine StepsU.cons ?_ ?_
        · intro Q E0 listed a w' hI hM hk haft K hK
          obtain ⟨b0, b1, b2, b3, b4, b5, b6, b7, b8, b9, b10, b11, b12, x41, x42, hl, ha, HF⟩ := hI
          subst hl; subst ha
          obtain ⟨G, G9, G10, G12⟩ := HF.out
          clear HF
          have hk' : b3 = false := hk
          subst hk'
          clear hk
          obtain rfl : b4 = false := by cases b4 with | false => rfl | true => exact absurd (hM 4 3 rfl rfl) Bool.false_ne_true
          obtain rfl : b6 = false := by cases b6 with | false => rfl | true => exact absurd (hM 6 4 rfl rfl) Bool.false_ne_true
          obtain rfl : b7 = false := by cases b7 with | false => rfl | true => exact absurd (hM 7 6 rfl rfl) Bool.false_ne_true
          obtain rfl : b8 = false := by cases b8 with | false => rfl | true => exact absurd (hM 8 7 rfl rfl) Bool.false_ne_true
          obtain rfl : b9 = false := by cases b9 with | false => rfl | true => exact absurd (hM 9 8 rfl rfl) Bool.false_ne_true
          obtain rfl : b10 = false := by cases b10 with | false => rfl | true => exact absurd (hM 10 9 rfl rfl) Bool.false_ne_true
          obtain rfl : b12 = false := by cases b12 with | false => rfl | true => exact absurd (hM 12 10 rfl rfl) Bool.false_ne_true
          clear haft
          obtain rfl := G rfl
          go_simp
          exact hK _ _ ⟨b0, b1, b2, true, false, b5, false, false, false, false, false, b11, false, _, _, rfl, rfl, Lib.hid ⟨fun _ => rfl, nofun, nofun, nofun⟩⟩
        refine StepsU.cons ?_ ?_
        · intro Q E0 listed a w' hI hM hk haft K hK
          obtain ⟨b0, b1, b2, b3, b4, b5, b6, b7, b8, b9, b10, b11, b12, x41, x42, hl, ha, HF⟩ := hI
          subst hl; subst ha
          obtain ⟨G, G9, G10, G12⟩ := HF.out
          clear HF
          have hk' : b4 = false := hk
          subst hk'
          clear hk
          obtain rfl : b6 = false := by cases b6 with | false => rfl | true => exact absurd (hM 6 4 rfl rfl) Bool.false_ne_true
          obtain rfl : b7 = false := by cases b7 with | false => rfl | true => exact absurd (hM 7 6 rfl rfl) Bool.false_ne_true
          obtain rfl : b8 = false := by cases b8 with | false => rfl | true => exact absurd (hM 8 7 rfl rfl) Bool.false_ne_true
          obtain rfl : b9 = false := by cases b9 with | false => rfl | true => exact absurd (hM 9 8 rfl rfl) Bool.false_ne_true
          obtain rfl : b10 = false := by cases b10 with | false => rfl | true => exact absurd (hM 10 9 rfl rfl) Bool.false_ne_true
          obtain rfl : b12 = false := by cases b12 with | false => rfl | true => exact absurd (hM 12 10 rfl rfl) Bool.false_ne_true
          obtain rfl : b3 = true := haft ⟨3, .data⟩ (by simp) rfl
          clear haft
          obtain rfl := G rfl
          go_simp
          exact hK _ _ ⟨b0, b1, b2, true, true, b5, false, false, false, false, false, b11, false, _, _, rfl, rfl, Lib.hid ⟨fun _ => rfl, nofun, nofun, nofun⟩⟩
        refine StepsU.cons ?_ ?_
        · intro Q E0 listed a w' hI hM hk haft K hK
          obtain ⟨b0, b1, b2, b3, b4, b5, b6, b7, b8, b9, b10, b11, b12, x41, x42, hl, ha, HF⟩ := hI
          subst hl; subst ha
          obtain ⟨G, G9, G10, G12⟩ := HF.out
          clear HF
          have hk' : b5 = false := hk
          subst hk'
          clear hk
          obtain rfl : b6 = false := by cases b6 with | false => rfl | true => exact absurd (hM 6 5 rfl rfl) Bool.false_ne_true
          obtain rfl : b7 = false := by cases b7 with | false => rfl | true => exact absurd (hM 7 6 rfl rfl) Bool.false_ne_true
          obtain rfl : b8 = false := by cases b8 with | false => rfl | true => exact absurd (hM 8 7 rfl rfl) Bool.false_ne_true
          obtain rfl : b9 = false := by cases b9 with | false => rfl | true => exact absurd (hM 9 8 rfl rfl) Bool.false_ne_true
          obtain rfl : b10 = false := by cases b10 with | false => rfl | true => exact absurd (hM 10 9 rfl rfl) Bool.false_ne_true
          obtain rfl : b12 = false := by cases b12 with | false => rfl | true => exact absurd (hM 12 10 rfl rfl) Bool.false_ne_true
          clear haft
          obtain rfl := G rfl
          go_simp
          exact hK _ _ ⟨b0, b1, b2, b3, b4, true, false, false, false, false, false, b11, false, _, _, rfl, rfl, Lib.hid ⟨fun _ => rfl, nofun, nofun, nofun⟩⟩
        refine StepsU.cons ?_ ?_
        · intro Q E0 listed a w' hI hM hk haft K hK
          obtain ⟨b0, b1, b2, b3, b4, b5, b6, b7, b8, b9, b10, b11, b12, x41, x42, hl, ha, HF⟩ := hI
          subst hl; subst ha
          obtain ⟨G, G9, G10, G12⟩ := HF.out
          clear HF
          have hk' : b6 = false := hk
          subst hk'
          clear hk
          obtain rfl : b7 = false := by cases b7 with | false => rfl | true => exact absurd (hM 7 6 rfl rfl) Bool.false_ne_true
          obtain rfl : b8 = false := by cases b8 with | false => rfl | true => exact absurd (hM 8 7 rfl rfl) Bool.false_ne_true
          obtain rfl : b9 = false := by cases b9 with | false => rfl | true => exact absurd (hM 9 8 rfl rfl) Bool.false_ne_true
          obtain rfl : b10 = false := by cases b10 with | false => rfl | true => exact absurd (hM 10 9 rfl rfl) Bool.false_ne_true
          obtain rfl : b12 = false := by cases b12 with | false => rfl | true => exact absurd (hM 12 10 rfl rfl) Bool.false_ne_true
          obtain rfl : b4 = true := haft ⟨4, .data⟩ (by simp) rfl
          obtain rfl : b5 = true := haft ⟨5, .data⟩ (by simp) rfl
          obtain rfl : b3 = true := hM 4 3 rfl rfl
          clear haft
          obtain rfl := G rfl
          go_simp
          exact hK _ _ ⟨b0, b1, b2, true, true, true, true, false, false, false, false, b11, false, _, _, rfl, rfl, Lib.hid ⟨fun _ => rfl, nofun, nofun, nofun⟩⟩
        refine StepsU.cons ?_ ?_
        · intro Q E0 listed a w' hI hM hk haft K hK
          obtain ⟨b0, b1, b2, b3, b4, b5, b6, b7, b8, b9, b10, b11, b12, x41, x42, hl, ha, HF⟩ := hI
          subst hl; subst ha
          obtain ⟨G, G9, G10, G12⟩ := HF.out
          clear HF
          have hk' : b7 = false := hk
          subst hk'
          clear hk
          obtain rfl : b8 = false := by cases b8 with | false => rfl | true => exact absurd (hM 8 7 rfl rfl) Bool.false_ne_true
          obtain rfl : b9 = false := by cases b9 with | false => rfl | true => exact absurd (hM 9 8 rfl rfl) Bool.false_ne_true
          obtain rfl : b10 = false := by cases b10 with | false => rfl | true => exact absurd (hM 10 9 rfl rfl) Bool.false_ne_true
          obtain rfl : b12 = false := by cases b12 with | false => rfl | true => exact absurd (hM 12 10 rfl rfl) Bool.false_ne_true
          obtain rfl : b6 = true := haft ⟨6, .data⟩ (by simp) rfl
          obtain rfl : b4 = true := hM 6 4 rfl rfl
          obtain rfl : b5 = true := hM 6 5 rfl rfl
          obtain rfl : b3 = true := hM 4 3 rfl rfl
          clear haft
          obtain rfl := G rfl
          go_simp
          exact hK _ _ ⟨b0, b1, b2, true, true, true, true, true, false, false, false, b11, false, _, _, rfl, rfl, Lib.hid ⟨fun _ => rfl, nofun, nofun, nofun⟩⟩
        refine StepsU.cons ?_ ?_
        · intro Q E0 listed a w' hI hM hk haft K hK
          obtain ⟨b0, b1, b2, b3, b4, b5, b6, b7, b8, b9, b10, b11, b12, x41, x42, hl, ha, HF⟩ := hI
          subst hl; subst ha
          obtain ⟨G, G9, G10, G12⟩ := HF.out
          clear HF
          have hk' : b8 = false := hk
          subst hk'
          clear hk
          obtain rfl : b9 = false := by cases b9 with | false => rfl | true => exact absurd (hM 9 8 rfl rfl) Bool.false_ne_true
          obtain rfl : b10 = false := by cases b10 with | false => rfl | true => exact absurd (hM 10 9 rfl rfl) Bool.false_ne_true
          obtain rfl : b12 = false := by cases b12 with | false => rfl | true => exact absurd (hM 12 10 rfl rfl) Bool.false_ne_true
          obtain rfl : b2 = true := haft ⟨2, .data⟩ (by simp) rfl
          obtain rfl : b7 = true := haft ⟨7, .data⟩ (by simp) rfl
          obtain rfl : b6 = true := hM 7 6 rfl rfl
          obtain rfl : b4 = true := hM 6 4 rfl rfl
          obtain rfl : b5 = true := hM 6 5 rfl rfl
          obtain rfl : b3 = true := hM 4 3 rfl rfl
          clear haft
          obtain rfl := G rfl
          go_simp
          exact hK _ _ ⟨b0, b1, true, true, true, true, true, true, true, false, false, b11, false, _, _, rfl, rfl, Lib.hid ⟨fun _ => rfl, nofun, nofun, nofun⟩⟩
        refine StepsU.cons ?_ ?_
        · intro Q E0 listed a w' hI hM hk haft K hK
          obtain ⟨b0, b1, b2, b3, b4, b5, b6, b7, b8, b9, b10, b11, b12, x41, x42, hl, ha, HF⟩ := hI
          subst hl; subst ha
          obtain ⟨G, G9, G10, G12⟩ := HF.out
          clear HF
          have hk' : b9 = false := hk
          subst hk'
          clear hk
          obtain rfl : b10 = false := by cases b10 with | false => rfl | true => exact absurd (hM 10 9 rfl rfl) Bool.false_ne_true
          obtain rfl : b12 = false := by cases b12 with | false => rfl | true => exact absurd (hM 12 10 rfl rfl) Bool.false_ne_true
          obtain rfl : b8 = true := haft ⟨8, .data⟩ (by simp) rfl
          obtain rfl : b2 = true := hM 8 2 rfl rfl
          obtain rfl : b7 = true := hM 8 7 rfl rfl
          obtain rfl : b6 = true := hM 7 6 rfl rfl
          obtain rfl : b4 = true := hM 6 4 rfl rfl
          obtain rfl : b5 = true := hM 6 5 rfl rfl
          obtain rfl : b3 = true := hM 4 3 rfl rfl
          clear haft
          obtain rfl := G rfl
          go_simp
          exact hK _ _ ⟨b0, b1, true, true, true, true, true, true, true, true, false, b11, false, _, _, rfl, rfl, Lib.hid ⟨nofun, fun _ _ => ⟨rfl, rfl⟩, nofun, nofun⟩⟩
        refine StepsU.cons ?_ ?_
        · intro Q E0 listed a w' hI hM hk haft K hK
          obtain ⟨b0, b1, b2, b3, b4, b5, b6, b7, b8, b9, b10, b11, b12, x41, x42, hl, ha, HF⟩ := hI
          subst hl; subst ha
          obtain ⟨G, G9, G10, G12⟩ := HF.out
          clear HF
          have hk' : b10 = false := hk
          subst hk'
          clear hk
          obtain rfl : b12 = false := by cases b12 with | false => rfl | true => exact absurd (hM 12 10 rfl rfl) Bool.false_ne_true
          obtain rfl : b1 = true := haft ⟨1, .data⟩ (by simp) rfl
          obtain rfl : b9 = true := haft ⟨9, .data⟩ (by simp) rfl
          obtain rfl : b0 = true := hM 1 0 rfl rfl
          obtain rfl : b8 = true := hM 9 8 rfl rfl
          obtain rfl : b2 = true := hM 8 2 rfl rfl
          obtain rfl : b7 = true := hM 8 7 rfl rfl
          obtain rfl : b6 = true := hM 7 6 rfl rfl
          obtain rfl : b4 = true := hM 6 4 rfl rfl
          obtain rfl : b5 = true := hM 6 5 rfl rfl
          obtain rfl : b3 = true := hM 4 3 rfl rfl
          clear haft
          have hG := G9 rfl rfl
          obtain ⟨rfl, rfl⟩ := hG
          refine stepAppAt elMove (by decide) rfl (.tmp 33) (.tmp 41) rfl w.heap.size _ _ _ [.int .i64 D.states, .int .i64 (-1), .int .i64 x] _ wr.heap.size rfl rfl (HXD.out.mv.alloc _) (by exact blkNew _ _ rfl) rfl (by simp [Value.oneCell']) (by have := hml.out; have := Hnm.out; omega) (by have h1 : w.heap.size ≤ wr.heap.size := HXD.out.sz; simp; omega) ?_
          intro g7 cap7 w7 ho7 hg7 hat7
          have hg8 : wr.drew.grownBy w7 (Value.slice am nm cm).ownBlock := grownTrans (grownBel ((Below.refl _ _).alloc (Nat.le_refl _) _)) hg7
          have ho8 : Own3 w7 w.heap.size 40 (.slice (some ⟨g7, 0, none⟩) (ms.length + 1) cap7) (ms ++ [(D.states, -1, x)]) := by unfold Own3; rw [List.length_append, cells3_app]; exact ho7.out
          exact hK _ _ ⟨true, true, true, true, true, true, true, true, true, true, true, b11, false, _, _, rfl, rfl, Lib.hid ⟨nofun, fun _ => nofun, fun _ _ => ⟨g7, cap7, rfl, ho8, hg8⟩, nofun⟩⟩
        refine StepsU.cons ?_ ?_
        · intro Q E0 listed a w' hI hM hk haft K hK
          obtain ⟨b0, b1, b2, b3, b4, b5, b6, b7, b8, b9, b10, b11, b12, x41, x42, hl, ha, HF⟩ := hI
          subst hl; subst ha
          obtain ⟨G, G9, G10, G12⟩ := HF.out
          clear HF
          have hk' : b11 = false := hk
          subst hk'
          clear hk
          obtain rfl : b12 = false := by cases b12 with | false => rfl | true => exact absurd (hM 12 11 rfl rfl) Bool.false_ne_true
          clear haft
          go_simp
          exact hK _ _ ⟨b0, b1, b2, b3, b4, b5, b6, b7, b8, b9, b10, true, false, _, _, rfl, rfl, Lib.hid ⟨G, G9, G10, nofun⟩⟩
        refine StepsU.cons ?_ ?_
        · intro Q E0 listed a w' hI hM hk haft K hK
          obtain ⟨b0, b1, b2, b3, b4, b5, b6, b7, b8, b9, b10, b11, b12, x41, x42, hl, ha, HF⟩ := hI
          subst hl; subst ha
          obtain ⟨G, G9, G10, G12⟩ := HF.out
          clear HF
          have hk' : b12 = false := hk
          subst hk'
          clear hk
          obtain rfl : b10 = true := haft ⟨10, .data⟩ (by simp) rfl
          obtain rfl : b11 = true := haft ⟨11, .data⟩ (by simp) rfl
          obtain rfl : b1 = true := hM 10 1 rfl rfl
          obtain rfl : b9 = true := hM 10 9 rfl rfl
          obtain rfl : b0 = true := hM 1 0 rfl rfl
          obtain rfl : b8 = true := hM 9 8 rfl rfl
          obtain rfl : b2 = true := hM 8 2 rfl rfl
          obtain rfl : b7 = true := hM 8 7 rfl rfl
          obtain rfl : b6 = true := hM 7 6 rfl rfl
          obtain rfl : b4 = true := hM 6 4 rfl rfl
          obtain rfl : b5 = true := hM 6 5 rfl rfl
          obtain rfl : b3 = true := hM 4 3 rfl rfl
          clear haft
          have hG := G10 rfl rfl
          obtain ⟨g7, cap7, rfl, ho8, hg8⟩ := hG
          have HX7 := HXD.out.addM hg8 ho8
          have b4' := HXD.out.hdM hg8
          obtain ⟨_, e1', _, _⟩ := blk4 b4'
          have f1' := blkFz b4' 1
          have h07 := blkGrow hg8 h02.out (fun e => ownNe HXD.out.mv h02.out (by decide) e.symm)
          have h17 := blkGrow hg8 h12.out (fun e => ownNe HXD.out.mv h12.out (by decide) e.symm)
          go_simp
          exact hK _ _ ⟨true, true, true, true, true, true, true, true, true, true, true, true, true, _, _, rfl, rfl, Lib.hid ⟨nofun, fun _ => nofun, fun _ => nofun, fun _ => ⟨_, HX7, blkSet h07 (by have := Hgw.out; omega), blkSet h17 (by have := Hgw.out; omega)⟩⟩⟩
        exact StepsU.nil
      · intro G0 hG0 listed a w' hI hall
        obtain ⟨b0, b1, b2, b3, b4, b5, b6, b7, b8, b9, b10, b11, b12, x41, x42, hl, ha, HF⟩ := hI
        subst hl; subst ha
        obtain rfl : b0 = true := hall 0 (by decide)
        obtain rfl : b1 = true := hall 1 (by decide)
        obtain rfl : b2 = true := hall 2 (by decide)
        obtain rfl : b3 = true := hall 3 (by decide)
        obtain rfl : b4 = true := hall 4 (by decide)
        obtain rfl : b5 = true := hall 5 (by decide)
        obtain rfl : b6 = true := hall 6 (by decide)
        obtain rfl : b7 = true := hall 7 (by decide)
        obtain rfl : b8 = true := hall 8 (by decide)
        obtain rfl : b9 = true := hall 9 (by decide)
        obtain rfl : b10 = true := hall 10 (by decide)
        obtain rfl : b11 = true := hall 11 (by decide)
        obtain rfl : b12 = true := hall 12 (by decide)
        exact hG0 _ _ _ (HF.out.2.2.2 rfl)
      · intro x41 x42 w' hFin
        obtain ⟨vm', hS', hw0, hw1⟩ := hFin
        clear d1D d2D d3D c0D e1D m0D d1 e1 m0 c0 d2 d3 e0 e2 e3 HXD h02 h12
        go_wp2
        go_roundw
        case rel => exact ⟨k + 1, _, by omega, by go_num, by rw [Hms.out]; exact hS', hw0, hw1⟩
        case measure => simp [intOf]; omega
    · obtain rfl : k = D.firsts.length := by omega
      rw [List.take_length] at hs
      obtain ⟨M1, hM1⟩ : ∃ M1, M1 = D.moves ++ D.firsts.map (fun t : Int => ((D.states, -1, t) : Int × Int × Int)) := ⟨_, rfl⟩
      rw [← hM1] at hs
      have HM1 : Hid (M1.length ≤ 440) := Lib.hid (by rw [hM1]; simp only [List.length_append, List.length_map]; have := HLN.out; omega)
      have HE1 := Lib.hid hM1; clear hM1
      have HS := hs; have K0 := h0; have K1 := h1; clear hs h0 h1
      go_wp2_with fail
      clear c0 d1 d2 d3 hlt hk
      go_loopw [7] (fun i wr => ∃ (k : Nat) (vm : Value), k ≤ D.ends.length ∧ i = .int .i64 k ∧ Hid (NSt w wr g w.heap.size (D.states + 1) vm vf ve (M1 ++ (D.ends.take k).map (fun f : Int => ((f, -1, D.states) : Int × Int × Int))) [D.states] [D.states]) ∧ Hid (wr.heap[w.heap.size]? = some (.cells #[.int .i64 D.states, .slice a1 D.moves.length c1, .slice a2 D.firsts.length c2, .slice a3 D.ends.length c3] 36 (0, 0))) ∧ Hid (wr.heap[w.heap.size + 1]? = some (.cells #[.int .i64 0, .slice none 0 0, .slice none 0 0, .slice none 0 0] 36 (0, 0)))) (fun i _ => D.ends.length - (intOf i).toNat)
      case atStart => exact ⟨0, _, by omega, rfl, by rw [List.take_zero, List.map_nil, List.append_nil]; exact HS, K0, K1⟩
      case round =>
        obtain ⟨k, vm, hk, rfl, hs, h0, h1⟩ := hrel
        clear HS K0 K1
        obtain ⟨c0, d1, d2, d3⟩ := blk4 h0.out
        by_cases hlt : k < D.ends.length
        · obtain ⟨b, off, rfl, m0⟩ := ((H0.out.2.2).stay (kpB hs.out.bel)).at hlt
          have Hst := Lib.hid (map_take_step (fun f : Int => ((f, -1, D.states) : Int × Int × Int)) D.ends hlt)
          obtain ⟨x, hx⟩ : ∃ x, x = D.ends[k] := ⟨_, rfl⟩
          rw [← hx] at m0 Hst
          have Hx := Lib.hid (hx ▸ List.getElem_mem hlt : x ∈ D.ends); clear hx
          obtain ⟨ms, hms⟩ : ∃ ms, ms = M1 ++ (D.ends.take k).map (fun f : Int => ((f, -1, D.states) : Int × Int × Int)) := ⟨_, rfl⟩
          have Hms : Hid (M1 ++ (D.ends.take (k + 1)).map (fun f : Int => ((f, -1, D.states) : Int × Int × Int)) = ms ++ [(x, -1, D.states)]) := Lib.hid (by rw [hms, Hst.out, List.append_assoc])
          rw [← hms] at hs
          have hml := Lib.hid (show ms.length ≤ 1000000000 from by rw [hms]; simp only [List.length_append, List.length_map, List.length_take]; have := HLN.out; have := HM1.out; omega)
          clear hms Hst
          obtain ⟨am, cm, hvm, _⟩ := hs.out.mv.shape
          obtain ⟨nm, hnm⟩ : ∃ nm, nm = ms.length := ⟨_, rfl⟩
          rw [← hnm] at hvm
          have Hnm := Lib.hid hnm; clear hnm
          subst hvm
          obtain ⟨e0, e1, e2, e3⟩ := blk4 hs.out.hd
          have HXD := Lib.hid (hs.out.stay (Below.refl _ _).drew)
          have h02 : Hid (wr.drew.heap[w.heap.size]? = _) := h0
          have h12 : Hid (wr.drew.heap[w.heap.size + 1]? = _) := h1
          have c0D : wr.drew.cell? ⟨w.heap.size, 0, none⟩ = _ := c0
          have d1D : wr.drew.cell? ⟨w.heap.size, 1, none⟩ = _ := d1
          have d2D : wr.drew.cell? ⟨w.heap.size, 2, none⟩ = _ := d2
          have d3D : wr.drew.cell? ⟨w.heap.size, 3, none⟩ = _ := d3
          have e1D : wr.drew.cell? ⟨g, 1, none⟩ = _ := e1
          have m0D : wr.drew.cell? ⟨b, off + k, none⟩ = _ := m0
          have hltI : (k : Int) < (D.ends.length : Int) := by omega
          have hk0 : (0 : Int) ≤ (k : Int) := Int.natCast_nonneg _
          go_wp2_with fail
          refine wp_region_inv2 [(1, 0), (3, 2), (5, 3), (5, 4), (6, 5), (8, 6), (8, 7), (9, 8), (10, 1), (10, 9), (12, 10), (12, 11)] (fun listed a w' => ∃ (b0 b1 b2 b3 b4 b5 b6 b7 b8 b9 b10 b11 b12 : Bool) (x60 x61 : Value), listed = #[b0, b1, b2, b3, b4, b5, b6, b7, b8, b9, b10, b11, b12] ∧ a = { tmps := #[Value.agg #[Value.int IntKind.i64 D.states, Value.slice a1 D.moves.length c1, Value.slice a2 D.firsts.length c2, Value.slice (some { block := b, off := off }) D.ends.length c3], Value.pointer (some { block := w.heap.size, off := 0 }), Value.pointer (some { block := w.heap.size + 1, off := 0 }), Value.bool false, Value.int IntKind.i64 D.states, Value.pointer (some { block := g, off := 0 }), Value.int IntKind.i64 ↑D.firsts.length, Value.int IntKind.i64 ↑k, Value.agg #[Value.int IntKind.i64 D.states, Value.slice a1 D.moves.length c1, Value.slice a2 D.firsts.length c2, Value.slice (some { block := b, off := off }) D.ends.length c3], Value.bool true, Value.bool false, undef, Value.pointer (some { block := w.heap.size, off := 0 }), Value.int IntKind.i64 D.states, Value.int IntKind.i64 D.states, Value.int IntKind.i64 (D.states + 1), Value.slice (some { block := w1.heap.size, off := 0 }) 0 0, Value.pointer (some { block := w.heap.size, off := 1 }), Value.slice a1 D.moves.length c1, Value.slice a1' n1' ca1', Value.int IntKind.i64 D.states, vf, Value.int IntKind.i64 D.states, ve, Value.agg #[Value.int IntKind.i64 (D.states + 1), Value.slice a1' n1' ca1', vf, ve], Value.int IntKind.i64 ↑D.firsts.length, Value.pointer (some { block := w.heap.size, off := 2 }), Value.slice a2 D.firsts.length c2, Value.int IntKind.i64 ↑D.firsts.length, Value.bool false, u30, u31, u32, u33, u34, u35, u36, u37, u38, u39, u40, u41, u42, u43, Value.int IntKind.i64 ↑k, Value.pointer (some { block := w.heap.size, off := 3 }), Value.slice (some { block := b, off := off }) D.ends.length c3, Value.int IntKind.i64 ↑D.ends.length, Value.bool true, u49, u50, cond b0 (.pointer (some ⟨g, 1, none⟩)) (u51), cond b1 (.slice am nm cm) (u52), cond b2 (.pointer (some ⟨w.heap.size, 3, none⟩)) (u53), cond b3 (.slice (some ⟨b, off, none⟩) D.ends.length c3) (u54), cond b4 (.int .i64 k) (u55), cond b5 (.pointer (some ⟨b, off + k, none⟩)) (u56), cond b6 (.int .i64 x) (u57), cond b7 (.int .i64 D.states) (u58), cond b8 (.agg #[.int .i64 x, .int .i64 (-1), .int .i64 D.states]) (u59), x60, x61, cond b11 (.pointer (some ⟨g, 1, none⟩)) (u62), undef, undef, undef, undef], defers := [] } ∧ Hid ((b9 = false → w' = wr.drew) ∧ (b9 = true → b10 = false → (w' = (wr.drew.alloc (.cells #[.int .i64 x, .int .i64 (-1), .int .i64 D.states] 40)) ∧ x60 = .slice (some ⟨wr.heap.size, 0, none⟩) 1 1)) ∧ (b10 = true → b12 = false → (∃ (g7 : Nat) (cap7 : Nat), x61 = .slice (some ⟨g7, 0, none⟩) (ms.length + 1) cap7 ∧ Own3 w' w.heap.size 40 (.slice (some ⟨g7, 0, none⟩) (ms.length + 1) cap7) (ms ++ [(x, -1, D.states)]) ∧ wr.drew.grownBy w' (Value.slice am nm cm).ownBlock)) ∧ (b12 = true → (∃ vm', NSt w w' g w.heap.size (D.states + 1) vm' vf ve (ms ++ [(x, -1, D.states)]) [D.states] [D.states] ∧ w'.heap[w.heap.size]? = some (.cells #[.int .i64 D.states, .slice a1 D.moves.length c1, .slice a2 D.firsts.length c2, .slice (some ⟨b, off, none⟩) D.ends.length c3] 36 (0, 0)) ∧ w'.heap[w.heap.size + 1]? = some (.cells #[.int .i64 0, .slice none 0 0, .slice none 0 0, .slice none 0 0] 36 (0, 0)))))) (fun G => ∀ (x60 x61 : Value) (w' : World), ((∃ vm', NSt w w' g w.heap.size (D.states + 1) vm' vf ve (ms ++ [(x, -1, D.states)]) [D.states] [D.states] ∧ w'.heap[w.heap.size]? = some (.cells #[.int .i64 D.states, .slice a1 D.moves.length c1, .slice a2 D.firsts.length c2, .slice (some ⟨b, off, none⟩) D.ends.length c3] 36 (0, 0)) ∧ w'.heap[w.heap.size + 1]? = some (.cells #[.int .i64 0, .slice none 0 0, .slice none 0 0, .slice none 0 0] 36 (0, 0)))) → G { tmps := #[Value.agg #[Value.int IntKind.i64 D.states, Value.slice a1 D.moves.length c1, Value.slice a2 D.firsts.length c2, Value.slice (some { block := b, off := off }) D.ends.length c3], Value.pointer (some { block := w.heap.size, off := 0 }), Value.pointer (some { block := w.heap.size + 1, off := 0 }), Value.bool false, Value.int IntKind.i64 D.states, Value.pointer (some { block := g, off := 0 }), Value.int IntKind.i64 ↑D.firsts.length, Value.int IntKind.i64 ↑k, Value.agg #[Value.int IntKind.i64 D.states, Value.slice a1 D.moves.length c1, Value.slice a2 D.firsts.length c2, Value.slice (some { block := b, off := off }) D.ends.length c3], Value.bool true, Value.bool false, undef, Value.pointer (some { block := w.heap.size, off := 0 }), Value.int IntKind.i64 D.states, Value.int IntKind.i64 D.states, Value.int IntKind.i64 (D.states + 1), Value.slice (some { block := w1.heap.size, off := 0 }) 0 0, Value.pointer (some { block := w.heap.size, off := 1 }), Value.slice a1 D.moves.length c1, Value.slice a1' n1' ca1', Value.int IntKind.i64 D.states, vf, Value.int IntKind.i64 D.states, ve, Value.agg #[Value.int IntKind.i64 (D.states + 1), Value.slice a1' n1' ca1', vf, ve], Value.int IntKind.i64 ↑D.firsts.length, Value.pointer (some { block := w.heap.size, off := 2 }), Value.slice a2 D.firsts.length c2, Value.int IntKind.i64 ↑D.firsts.length, Value.bool false, u30, u31, u32, u33, u34, u35, u36, u37, u38, u39, u40, u41, u42, u43, Value.int IntKind.i64 ↑k, Value.pointer (some { block := w.heap.size, off := 3 }), Value.slice (some { block := b, off := off }) D.ends.length c3, Value.int IntKind.i64 ↑D.ends.length, Value.bool true, u49, u50, .pointer (some ⟨g, 1, none⟩), .slice am nm cm, .pointer (some ⟨w.heap.size, 3, none⟩), .slice (some ⟨b, off, none⟩) D.ends.length c3, .int .i64 k, .pointer (some ⟨b, off + k, none⟩), .int .i64 x, .int .i64 D.states, .agg #[.int .i64 x, .int .i64 (-1), .int .i64 D.states], x60, x61, .pointer (some ⟨g, 1, none⟩), undef, undef, undef, undef], defers := [] } w') (by kernel_rfl) (by kernel_rfl) (by kernel_rfl) (by kernel_rfl) ?_ ?_ ?_ ?_
          · exact ⟨false, false, false, false, false, false, false, false, false, false, false, false, false, u60, u61, rfl, rfl, Lib.hid ⟨fun _ => rfl, nofun, nofun, nofun⟩⟩
          · refine StepsU.cons ?_ ?_
            · intro Q E0 listed a w' hI hM hk haft K hK
              obtain ⟨b0, b1, b2, b3, b4, b5, b6, b7, b8, b9, b10, b11, b12, x60, x61, hl, ha, HF⟩ := hI
              subst hl; subst ha
              obtain ⟨G, G9, G10, G12⟩ := HF.out
              clear HF
              have hk' : b0 = false := hk
              subst hk'
              clear hk
              obtain rfl : b1 = false := by cases b1 with | false => rfl | true => exact absurd (hM 1 0 rfl rfl) Bool.false_ne_true
              obtain rfl : b10 = false := by cases b10 with | false => rfl | true => exact absurd (hM 10 1 rfl rfl) Bool.false_ne_true
              obtain rfl : b12 = false := by cases b12 with | false => rfl | true => exact absurd (hM 12 10 rfl rfl) Bool.false_ne_true
              clear haft
              go_simp
              exact hK _ _ ⟨true, false, b2, b3, b4, b5, b6, b7, b8, b9, false, b11, false, _, _, rfl, rfl, Lib.hid ⟨G, G9, nofun, nofun⟩⟩
            refine StepsU.cons ?_ ?_
            · intro Q E0 listed a w' hI hM hk haft K hK
              obtain ⟨b0, b1, b2, b3, b4, b5, b6, b7, b8, b9, b10, b11, b12, x60, x61, hl, ha, HF⟩ := hI
              subst hl; subst ha
              obtain ⟨G, G9, G10, G12⟩ := HF.out
              clear HF
              have hk' : b1 = false := hk
              subst hk'
              clear hk
              obtain rfl : b10 = false := by cases b10 with | false => rfl | true => exact absurd (hM 10 1 rfl rfl) Bool.false_ne_true
              obtain rfl : b12 = false := by cases b12 with | false => rfl | true => exact absurd (hM 12 10 rfl rfl) Bool.false_ne_true
              obtain rfl : b0 = true := haft ⟨0, .data⟩ (by simp) rfl
              clear haft
              have e1W : w'.cell? ⟨g, 1, none⟩ = some (.slice am nm cm) := by cases b9 with | false => (rw [G rfl]; exact e1D) | true => (rw [(G9 rfl rfl).1]; exact kpAlloc (S := fun _ => True) _ _ trivial e1D)
              go_simp
              exact hK _ _ ⟨true, true, b2, b3, b4, b5, b6, b7, b8, b9, false, b11, false, _, _, rfl, rfl, Lib.hid ⟨G, G9, nofun, nofun⟩⟩
            refine StepsU.cons ?_ ?_
            · intro Q E0 listed a w' hI hM hk haft K hK
              obtain ⟨b0, b1, b2, b3, b4, b5, b6, b7, b8, b9, b10, b11, b12, x60, x61, hl, ha, HF⟩ := hI
              subst hl; subst ha
              obtain ⟨G, G9, G10, G12⟩ := HF.out
              clear HF
              have hk' : b2 = false := hk
              subst hk'
              clear hk
              obtain rfl : b3 = false := by cases b3 with | false => rfl | true => exact absurd (hM 3 2 rfl rfl) Bool.false_ne_true
              obtain rfl : b5 = false := by cases b5 with | false => rfl | true => exact absurd (hM 5 3 rfl rfl) Bool.false_ne_true
              obtain rfl : b6 = false := by cases b6 with | false => rfl | true => exact absurd (hM 6 5 rfl rfl) Bool.false_ne_true
              obtain rfl : b8 = false := by cases b8 with | false => rfl | true => exact absurd (hM 8 6 rfl rfl) Bool.false_ne_true
              obtain rfl : b9 = false := by cases b9 with | false => rfl | true => exact absurd (hM 9 8 rfl rfl) Bool.false_ne_true
              obtain rfl : b10 = false := by cases b10 with | false => rfl | true => exact absurd (hM 10 9 rfl rfl) Bool.false_ne_true
              obtain rfl : b12 = false := by cases b12 with | false => rfl | true => exact absurd (hM 12 10 rfl rfl) Bool.false_ne_true
              clear haft
              obtain rfl := G rfl
              go_simp
              exact hK _ _ ⟨b0, b1, true, false, b4, false, false, b7, false, false, false, b11, false, _, _, rfl, rfl, Lib.hid ⟨fun _ => rfl, nofun, nofun, nofun⟩⟩
            refine StepsU.cons ?_ ?_
            · intro Q E0 listed a w' hI hM hk haft K hK
              obtain ⟨b0, b1, b2, b3, b4, b5, b6, b7, b8, b9, b10, b11, b12, x60, x61, hl, ha, HF⟩ := hI
              subst hl; subst ha
              obtain ⟨G, G9, G10, G12⟩ := HF.out
              clear HF
              have hk' : b3 = false := hk
              subst hk'
              clear hk
              obtain rfl : b5 = false := by cases b5 with | false => rfl | true => exact absurd (hM 5 3 rfl rfl) Bool.false_ne_true
              obtain rfl : b6 = false := by cases b6 with | false => rfl | true => exact absurd (hM 6 5 rfl rfl) Bool.false_ne_true
              obtain rfl : b8 = false := by cases b8 with | false => rfl | true => exact absurd (hM 8 6 rfl rfl) Bool.false_ne_true
              obtain rfl : b9 = false := by cases b9 with | false => rfl | true => exact absurd (hM 9 8 rfl rfl) Bool.false_ne_true
              obtain rfl : b10 = false := by cases b10 with | false => rfl | true => exact absurd (hM 10 9 rfl rfl) Bool.false_ne_true
              obtain rfl : b12 = false := by cases b12 with | false => rfl | true => exact absurd (hM 12 10 rfl rfl) Bool.false_ne_true
              obtain rfl : b2 = true := haft ⟨2, .data⟩ (by simp) rfl
              clear haft
              obtain rfl := G rfl
              go_simp
              exact hK _ _ ⟨b0, b1, true, true, b4, false, false, b7, false, false, false, b11, false, _, _, rfl, rfl, Lib.hid ⟨fun _ => rfl, nofun, nofun, nofun⟩⟩
            refine StepsU.cons ?_ ?_
            · intro Q E0 listed a w' hI hM hk haft K hK
              obtain ⟨b0, b1, b2, b3, b4, b5, b6, b7, b8, b9, b10, b11, b12, x60, x61, hl, ha, HF⟩ := hI
              subst hl; subst ha
              obtain ⟨G, G9, G10, G12⟩ := HF.out
              clear HF
              have hk' : b4 = false := hk
              subst hk'
              clear hk
              obtain rfl : b5 = false := by cases b5 with | false => rfl | true => exact absurd (hM 5 4 rfl rfl) Bool.false_ne_true
              obtain rfl : b6 = false := by cases b6 with | false => rfl | true => exact absurd (hM 6 5 rfl rfl) Bool.false_ne_true
              obtain rfl : b8 = false := by cases b8 with | false => rfl | true => exact absurd (hM 8 6 rfl rfl) Bool.false_ne_true
              obtain rfl : b9 = false := by cases b9 with | false => rfl | true => exact absurd (hM 9 8 rfl rfl) Bool.false_ne_true
              obtain rfl : b10 = false := by cases b10 with | false => rfl | true => exact absurd (hM 10 9 rfl rfl) Bool.false_ne_true
              obtain rfl : b12 = false := by cases b12 with | false => rfl | true => exact absurd (hM 12 10 rfl rfl) Bool.false_ne_true
              clear haft
              obtain rfl := G rfl
              go_simp
              exact hK _ _ ⟨b0, b1, b2, b3, true, false, false, b7, false, false, false, b11, false, _, _, rfl, rfl, Lib.hid ⟨fun _ => rfl, nofun, nofun, nofun⟩⟩
            refine StepsU.cons ?_ ?_
            · intro Q E0 listed a w' hI hM hk haft K hK
              obtain ⟨b0, b1, b2, b3, b4, b5, b6, b7, b8, b9, b10, b11, b12, x60, x61, hl, ha, HF⟩ := hI
              subst hl; subst ha
              obtain ⟨G, G9, G10, G12⟩ := HF.out
              clear HF
              have hk' : b5 = false := hk
              subst hk'
              clear hk
              obtain rfl : b6 = false := by cases b6 with | false => rfl | true => exact absurd (hM 6 5 rfl rfl) Bool.false_ne_true
              obtain rfl : b8 = false := by cases b8 with | false => rfl | true => exact absurd (hM 8 6 rfl rfl) Bool.false_ne_true
              obtain rfl : b9 = false := by cases b9 with | false => rfl | true => exact absurd (hM 9 8 rfl rfl) Bool.false_ne_true
              obtain rfl : b10 = false := by cases b10 with | false => rfl | true => exact absurd (hM 10 9 rfl rfl) Bool.false_ne_true
              obtain rfl : b12 = false := by cases b12 with | false => rfl | true => exact absurd (hM 12 10 rfl rfl) Bool.false_ne_true
              obtain rfl : b3 = true := haft ⟨3, .data⟩ (by simp) rfl
              obtain rfl : b4 = true := haft ⟨4, .data⟩ (by simp) rfl
              obtain rfl : b2 = true := hM 3 2 rfl rfl
              clear haft
              obtain rfl := G rfl
              go_simp
              exact hK _ _ ⟨b0, b1, true, true, true, true, false, b7, false, false, false, b11, false, _, _, rfl, rfl, Lib.hid ⟨fun _ => rfl, nofun, nofun, nofun⟩⟩
            refine StepsU.cons ?_ ?_
            · intro Q E0 listed a w' hI hM hk haft K hK
              obtain ⟨b0, b1, b2, b3, b4, b5, b6, b7, b8, b9, b10, b11, b12, x60, x61, hl, ha, HF⟩ := hI
              subst hl; subst ha
              obtain ⟨G, G9, G10, G12⟩ := HF.out
              clear HF
              have hk' : b6 = false := hk
              subst hk'
              clear hk
              obtain rfl : b8 = false := by cases b8 with | false => rfl | true => exact absurd (hM 8 6 rfl rfl) Bool.false_ne_true
              obtain rfl : b9 = false := by cases b9 with | false => rfl | true => exact absurd (hM 9 8 rfl rfl) Bool.false_ne_true
              obtain rfl : b10 = false := by cases b10 with | false => rfl | true => exact absurd (hM 10 9 rfl rfl) Bool.false_ne_true
              obtain rfl : b12 = false := by cases b12 with | false => rfl | true => exact absurd (hM 12 10 rfl rfl) Bool.false_ne_true
              obtain rfl : b5 = true := haft ⟨5, .data⟩ (by simp) rfl
              obtain rfl : b3 = true := hM 5 3 rfl rfl
              obtain rfl : b4 = true := hM 5 4 rfl rfl
              obtain rfl : b2 = true := hM 3 2 rfl rfl
              clear haft
              obtain rfl := G rfl
              go_simp
              exact hK _ _ ⟨b0, b1, true, true, true, true, true, b7, false, false, false, b11, false, _, _, rfl, rfl, Lib.hid ⟨fun _ => rfl, nofun, nofun, nofun⟩⟩
            refine StepsU.cons ?_ ?_
            · intro Q E0 listed a w' hI hM hk haft K hK
              obtain ⟨b0, b1, b2, b3, b4, b5, b6, b7, b8, b9, b10, b11, b12, x60, x61, hl, ha, HF⟩ := hI
              subst hl; subst ha
              obtain ⟨G, G9, G10, G12⟩ := HF.out
              clear HF
              have hk' : b7 = false := hk
              subst hk'
              clear hk
              obtain rfl : b8 = false := by cases b8 with | false => rfl | true => exact absurd (hM 8 7 rfl rfl) Bool.false_ne_true
              obtain rfl : b9 = false := by cases b9 with | false => rfl | true => exact absurd (hM 9 8 rfl rfl) Bool.false_ne_true
              obtain rfl : b10 = false := by cases b10 with | false => rfl | true => exact absurd (hM 10 9 rfl rfl) Bool.false_ne_true
              obtain rfl : b12 = false := by cases b12 with | false => rfl | true => exact absurd (hM 12 10 rfl rfl) Bool.false_ne_true
              clear haft
              obtain rfl := G rfl
              go_simp
              exact hK _ _ ⟨b0, b1, b2, b3, b4, b5, b6, true, false, false, false, b11, false, _, _, rfl, rfl, Lib.hid ⟨fun _ => rfl, nofun, nofun, nofun⟩⟩
            refine StepsU.cons ?_ ?_
            · intro Q E0 listed a w' hI hM hk haft K hK
              obtain ⟨b0, b1, b2, b3, b4, b5, b6, b7, b8, b9, b10, b11, b12, x60, x61, hl, ha, HF⟩ := hI
              subst hl; subst ha
              obtain ⟨G, G9, G10, G12⟩ := HF.out
              clear HF
              have hk' : b8 = false := hk
              subst hk'
              clear hk
              obtain rfl : b9 = false := by cases b9 with | false => rfl | true => exact absurd (hM 9 8 rfl rfl) Bool.false_ne_true
              obtain rfl : b10 = false := by cases b10 with | false => rfl | true => exact absurd (hM 10 9 rfl rfl) Bool.false_ne_true
              obtain rfl : b12 = false := by cases b12 with | false => rfl | true => exact absurd (hM 12 10 rfl rfl) Bool.false_ne_true
              obtain rfl : b6 = true := haft ⟨6, .data⟩ (by simp) rfl
              obtain rfl : b7 = true := haft ⟨7, .data⟩ (by simp) rfl
              obtain rfl : b5 = true := hM 6 5 rfl rfl
              obtain rfl : b3 = true := hM 5 3 rfl rfl
              obtain rfl : b4 = true := hM 5 4 rfl rfl
              obtain rfl : b2 = true := hM 3 2 rfl rfl
              clear haft
              obtain rfl := G rfl
              go_simp
              exact hK _ _ ⟨b0, b1, true, true, true, true, true, true, true, false, false, b11, false, _, _, rfl, rfl, Lib.hid ⟨fun _ => rfl, nofun, nofun, nofun⟩⟩
            refine StepsU.cons ?_ ?_
            · intro Q E0 listed a w' hI hM hk haft K hK
              obtain ⟨b0, b1, b2, b3, b4, b5, b6, b7, b8, b9, b10, b11, b12, x60, x61, hl, ha, HF⟩ := hI
              subst hl; subst ha
              obtain ⟨G, G9, G10, G12⟩ := HF.out
              clear HF
              have hk' : b9 = false := hk
              subst hk'
              clear hk
              obtain rfl : b10 = false := by cases b10 with | false => rfl | true => exact absurd (hM 10 9 rfl rfl) Bool.false_ne_true
              obtain rfl : b12 = false := by cases b12 with | false => rfl | true => exact absurd (hM 12 10 rfl rfl) Bool.false_ne_true
              obtain rfl : b8 = true := haft ⟨8, .data⟩ (by simp) rfl
              obtain rfl : b6 = true := hM 8 6 rfl rfl
              obtain rfl : b7 = true := hM 8 7 rfl rfl
              obtain rfl : b5 = true := hM 6 5 rfl rfl
              obtain rfl : b3 = true := hM 5 3 rfl rfl
              obtain rfl : b4 = true := hM 5 4 rfl rfl
              obtain rfl : b2 = true := hM 3 2 rfl rfl
              clear haft
              obtain rfl := G rfl
              go_simp
              exact hK _ _ ⟨b0, b1, true, true, true, true, true, true, true, true, false, b11, false, _, _, rfl, rfl, Lib.hid ⟨nofun, fun _ _ => ⟨rfl, rfl⟩, nofun, nofun⟩⟩
            refine StepsU.cons ?_ ?_
            · intro Q E0 listed a w' hI hM hk haft K hK
              obtain ⟨b0, b1, b2, b3, b4, b5, b6, b7, b8, b9, b10, b11, b12, x60, x61, hl, ha, HF⟩ := hI
              subst hl; subst ha
              obtain ⟨G, G9, G10, G12⟩ := HF.out
              clear HF
              have hk' : b10 = false := hk
              subst hk'
              clear hk
              obtain rfl : b12 = false := by cases b12 with | false => rfl | true => exact absurd (hM 12 10 rfl rfl) Bool.false_ne_true
              obtain rfl : b1 = true := haft ⟨1, .data⟩ (by simp) rfl
              obtain rfl : b9 = true := haft ⟨9, .data⟩ (by simp) rfl
              obtain rfl : b0 = true := hM 1 0 rfl rfl
              obtain rfl : b8 = true := hM 9 8 rfl rfl
              obtain rfl : b6 = true := hM 8 6 rfl rfl
              obtain rfl : b7 = true := hM 8 7 rfl rfl
              obtain rfl : b5 = true := hM 6 5 rfl rfl
              obtain rfl : b3 = true := hM 5 3 rfl rfl
              obtain rfl : b4 = true := hM 5 4 rfl rfl
              obtain rfl : b2 = true := hM 3 2 rfl rfl
              clear haft
              have hG := G9 rfl rfl
              obtain ⟨rfl, rfl⟩ := hG
              refine stepAppAt elMove (by decide) rfl (.tmp 52) (.tmp 60) rfl w.heap.size _ _ _ [.int .i64 x, .int .i64 (-1), .int .i64 D.states] _ wr.heap.size rfl rfl (HXD.out.mv.alloc _) (by exact blkNew _ _ rfl) rfl (by simp [Value.oneCell']) (by have := hml.out; have := Hnm.out; omega) (by have h1 : w.heap.size ≤ wr.heap.size := HXD.out.sz; simp; omega) ?_
              intro g7 cap7 w7 ho7 hg7 hat7
              have hg8 : wr.drew.grownBy w7 (Value.slice am nm cm).ownBlock := grownTrans (grownBel ((Below.refl _ _).alloc (Nat.le_refl _) _)) hg7
              have ho8 : Own3 w7 w.heap.size 40 (.slice (some ⟨g7, 0, none⟩) (ms.length + 1) cap7) (ms ++ [(x, -1, D.states)]) := by unfold Own3; rw [List.length_append, cells3_app]; exact ho7.out
              exact hK _ _ ⟨true, true, true, true, true, true, true, true, true, true, true, b11, false, _, _, rfl, rfl, Lib.hid ⟨nofun, fun _ => nofun, fun _ _ => ⟨g7, cap7, rfl, ho8, hg8⟩, nofun⟩⟩
            refine StepsU.cons ?_ ?_
            · intro Q E0 listed a w' hI hM hk haft K hK
              obtain ⟨b0, b1, b2, b3, b4, b5, b6, b7, b8, b9, b10, b11, b12, x60, x61, hl, ha, HF⟩ := hI
              subst hl; subst ha
              obtain ⟨G, G9, G10, G12⟩ := HF.out
              clear HF
              have hk' : b11 = false := hk
              subst hk'
              clear hk
              obtain rfl : b12 = false := by cases b12 with | false => rfl | true => exact absurd (hM 12 11 rfl rfl) Bool.false_ne_true
              clear haft
              go_simp
              exact hK _ _ ⟨b0, b1, b2, b3, b4, b5, b6, b7, b8, b9, b10, true, false, _, _, rfl, rfl, Lib.hid ⟨G, G9, G10, nofun⟩⟩
            refine StepsU.cons ?_ ?_
            · intro Q E0 listed a w' hI hM hk haft K hK
              obtain ⟨b0, b1, b2, b3, b4, b5, b6, b7, b8, b9, b10, b11, b12, x60, x61, hl, ha, HF⟩ := hI
              subst hl; subst ha
              obtain ⟨G, G9, G10, G12⟩ := HF.out
              clear HF
              have hk' : b12 = false := hk
              subst hk'
              clear hk
              obtain rfl : b10 = true := haft ⟨10, .data⟩ (by simp) rfl
              obtain rfl : b11 = true := haft ⟨11, .data⟩ (by simp) rfl
              obtain rfl : b1 = true := hM 10 1 rfl rfl
              obtain rfl : b9 = true := hM 10 9 rfl rfl
              obtain rfl : b0 = true := hM 1 0 rfl rfl
              obtain rfl : b8 = true := hM 9 8 rfl rfl
              obtain rfl : b6 = true := hM 8 6 rfl rfl
              obtain rfl : b7 = true := hM 8 7 rfl rfl
              obtain rfl : b5 = true := hM 6 5 rfl rfl
              obtain rfl : b3 = true := hM 5 3 rfl rfl
              obtain rfl : b4 = true := hM 5 4 rfl rfl
              obtain rfl : b2 = true := hM 3 2 rfl rfl
              clear haft
              have hG := G10 rfl rfl
              obtain ⟨g7, cap7, rfl, ho8, hg8⟩ := hG
              have HX7 := HXD.out.addM hg8 ho8
              have b4' := HXD.out.hdM hg8
              obtain ⟨_, e1', _, _⟩ := blk4 b4'
              have f1' := blkFz b4' 1
              have h07 := blkGrow hg8 h02.out (fun e => ownNe HXD.out.mv h02.out (by decide) e.symm)
              have h17 := blkGrow hg8 h12.out (fun e => ownNe HXD.out.mv h12.out (by decide) e.symm)
              go_simp
              exact hK _ _ ⟨true, true, true, true, true, true, true, true, true, true, true, true, true, _, _, rfl, rfl, Lib.hid ⟨nofun, fun _ => nofun, fun _ => nofun, fun _ => ⟨_, HX7, blkSet h07 (by have := Hgw.out; omega), blkSet h17 (by have := Hgw.out; omega)⟩⟩⟩
            exact StepsU.nil
          · intro G0 hG0 listed a w' hI hall
            obtain ⟨b0, b1, b2, b3, b4, b5, b6, b7, b8, b9, b10, b11, b12, x60, x61, hl, ha, HF⟩ := hI
            subst hl; subst ha
            obtain rfl : b0 = true := hall 0 (by decide)
            obtain rfl : b1 = true := hall 1 (by decide)
            obtain rfl : b2 = true := hall 2 (by decide)
            obtain rfl : b3 = true := hall 3 (by decide)
            obtain rfl : b4 = true := hall 4 (by decide)
            obtain rfl : b5 = true := hall 5 (by decide)
            obtain rfl : b6 = true := hall 6 (by decide)
            obtain rfl : b7 = true := hall 7 (by decide)
            obtain rfl : b8 = true := hall 8 (by decide)
            obtain rfl : b9 = true := hall 9 (by decide)
            obtain rfl : b10 = true := hall 10 (by decide)
            obtain rfl : b11 = true := hall 11 (by decide)
            obtain rfl : b12 = true := hall 12 (by decide)
            exact hG0 _ _ _ (HF.out.2.2.2 rfl)
          · intro x60 x61 w' hFin
            obtain ⟨vm', hS', hw0, hw1⟩ := hFin
            clear d1D d2D d3D c0D e1D m0D d1 e1 m0 c0 d2 d3 e0 e2 e3 HXD h02 h12
            go_wp2
            go_roundw
            case rel => exact ⟨k + 1, _, by omega, by go_num, by rw [Hms.out]; exact hS', hw0, hw1⟩
            case measure => simp [intOf]; omega
        · obtain rfl : k = D.ends.length := by omega
          rw [List.take_length] at hs
          rw [HE1.out] at hs
          obtain ⟨E, hE⟩ : ∃ E, E = starD D := ⟨_, rfl⟩
          have HO : Hid (NfaO w.heap.size wr vm vf ve E) := Lib.hid (by rw [hE]; exact hs.out.o)
          have hEs : D.states + 1 = E.states := by rw [hE]; rfl
          rw [← hE] at HN HB
          clear hE
          obtain ⟨a1', n1', ca1', rfl⟩ := HO.out.1.sl
          obtain ⟨a2', n2', ca2', rfl⟩ := HO.out.2.1.sl
          obtain ⟨a3', n3', ca3', rfl⟩ := HO.out.2.2.1.sl
          obtain ⟨e0, e1, e2, e3⟩ := blk4 hs.out.hd
          rw [hEs] at e0
          clear hEs
          have Hbel := Lib.hid hs.out.bel
          have hsz := Hbel.out.size
          clear hs h0
          go_wp2_with fail
          refine (l13Limit_c _ _ _ E wr HO.out.w.rd).mono ?_
          rintro e w4 ⟨vm', vf', ve', rfl, hb, hc⟩
          have HO3 := Lib.hid (CK.o hc HO.out hb)
          replace Hbel := Lib.hid (Hbel.out.trans (hb.mono hsz))
          replace h1 := Lib.hid (blkBel hb h1.out)
          clear hb hc HO e0 e1 e2 e3 c0 d1 d2 d3
          obtain ⟨a1', n1, ca1, rfl⟩ := HO3.out.1.sl
          obtain ⟨a2', n2, ca2, rfl⟩ := HO3.out.2.1.sl
          obtain ⟨a3', n3, ca3, rfl⟩ := HO3.out.2.2.1.sl
          obtain ⟨x, hx⟩ : ∃ x, x = (chkN E).states := ⟨_, rfl⟩
          obtain ⟨y, hy⟩ : ∃ y, y = chkB E := ⟨_, rfl⟩
          rw [← hx, ← hy]
          have Hx := Lib.hid hx; have Hy := Lib.hid hy; clear hx hy
          obtain ⟨e0, e1, e2, e3⟩ := blk4 h1.out
          have g1 := blkFz h1.out
          go_wp2
          refine bodyPost_ret (v := .tuple #[.agg #[.int .i64 x, .slice a1' n1 ca1, .slice a2' n2 ca2, .slice a3' n3 ca3], .bool y]) (by simp [results, Try.results136, go_sem, e0, e1, e2, e3, g1]) rfl ⟨_, _, _, by rw [HN.out, HB.out, Hx.out, Hy.out], bel4 Hbel.out (by omega) _ _ _ _, ?_⟩
          rw [HN.out]
          exact HO3.out.set4 _ (by omega) h1.out (by decide) _ _ _ _
end Go.Proofs.Ytbcjhiponbfbnaa
