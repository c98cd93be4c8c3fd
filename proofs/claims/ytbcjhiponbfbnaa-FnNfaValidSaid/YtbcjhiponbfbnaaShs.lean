/- An automaton with choices with greater numbers: the reference's. -/
import Derived.Test.YtbcjhiponbfbnaaShf
import Derived.Test.YtbcjhiponbfbnaaTrn
set_option linter.unusedSimpArgs false
set_option linter.unusedVariables false
set_option linter.unusedSectionVars false
namespace Go.Proofs.Ytbcjhiponbfbnaa
open Go.RowKit
set_option maxRecDepth 100000
variable {S T : Nat → Prop}
def shD (D : NfaD) (n : Int) : NfaD := ⟨D.states + n, D.moves.map (sft n), D.firsts.map (· + n), D.ends.map (· + n)⟩
/-- First states appended and stored, as long as there are no Ends. -/
theorem NSt.addF {w wr w' : World} {g BE : Nat} {n : Int} {vm vf v' : Value} {ms : List (Int × Int × Int)} {fs fs' : List Int} (h : NSt w wr g BE n vm vf (.slice none 0 0) ms fs []) (hg : wr.grownBy w' vf.ownBlock) (hv : OwnI w' w.heap.size v' fs') :
    NSt w (w'.setCell ⟨g, 2, none⟩ v') g BE n vm v' (.slice none 0 0) ms fs' [] := by
  have hh := blkGrow hg h.hd (fun e => ownNe h.fs h.hd nfNe.2.1 e.symm)
  have hmv := World.ownsRow.kept h.mv hg (ownOr h.mv h.fs (ownNe2 h.mv h.fs nfNe.2.2))
  refine ⟨(h.bel.grown hg h.sz (fun k hk => (World.ownsRow.lt h.fs k hk).1)).setCell h.gB _, h.gB, heap_set hh 2 _, ownSetNe hmv (ownNe hmv hh nfNe.1) _, ownSetNe hv (ownNe hv hh nfNe.2.1) _, ⟨rfl, .inl ⟨rfl, rfl⟩⟩, ⟨h.eB.1, ?_⟩, nofun⟩
  have := hg.size
  have := h.eB.2
  simp [World.setCell]; omega
theorem NSt.rebase {w wr : World} {g BE : Nat} {n : Int} {vm vf : Value} {ms : List (Int × Int × Int)} {fs : List Int} (h : NSt w wr g BE n vm vf (.slice none 0 0) ms fs []) : NSt w wr g wr.heap.size n vm vf (.slice none 0 0) ms fs [] :=
  ⟨h.bel, h.gB, h.hd, h.mv, h.fs, ⟨rfl, .inl ⟨rfl, rfl⟩⟩, ⟨h.sz, Nat.le_refl _⟩, nofun⟩
theorem NSt.hdF {w wr w' : World} {g BE : Nat} {n : Int} {vm vf ve : Value} {ms : List (Int × Int × Int)} {fs es : List Int} (h : NSt w wr g BE n vm vf ve ms fs es) (hg : wr.grownBy w' vf.ownBlock) : w'.heap[g]? = some (.cells #[.int .i64 n, vm, vf, ve] 36 (0, 0)) :=
  blkGrow hg h.hd (fun e => ownNe h.fs h.hd nfNe.2.1 e.symm)
set_option maxHeartbeats 4000000 in
theorem l13Shift_c (vm vf ve : Value) (D : NfaD) (n : Int) (w : World) (h : NfaR S w vm vf ve D) (hD : okN D) (hn : 0 ≤ n ∧ n ≤ 40) : Calls Try.prog 156 #[.agg #[.int .i64 D.states, vm, vf, ve], .int .i64 n] w (RNf w (shD D n)) := by
  obtain ⟨a1, c1, a2, c2, a3, c3, rfl, rfl, rfl, _, _, _⟩ := h.shapes
  obtain ⟨W, hW⟩ : ∃ W, W = ((w.alloc (.cells #[.int .i64 D.states, .slice a1 D.moves.length c1, .slice a2 D.firsts.length c2, .slice a3 D.ends.length c3] 36)).alloc (.cells #[.int .i64 0, .slice none 0 0, .slice none 0 0, .slice none 0 0] 36)).alloc (.cells #[.int .i64 (D.states + n), .slice none 0 0, .slice none 0 0, .slice none 0 0] 36) := ⟨_, rfl⟩
  have Hb0 : Hid (Below w.heap.size w W) := by rw [hW]; exact (((Below.refl _ _).alloc (Nat.le_refl _) _).alloc (by simp) _).alloc (by simp; omega) _
  have K0 : Hid (W.heap[w.heap.size]? = some (.cells #[.int .i64 D.states, .slice a1 D.moves.length c1, .slice a2 D.firsts.length c2, .slice a3 D.ends.length c3] 36 (0, 0))) := by rw [hW]; exact blkOld (blkOld (blkNew _ _ rfl))
  have K1 : Hid (W.heap[w.heap.size + 1]? = some (.cells #[.int .i64 0, .slice none 0 0, .slice none 0 0, .slice none 0 0] 36 (0, 0))) := by rw [hW]; exact blkOld (blkNew _ _ (by simp))
  have k2 : W.heap[w.heap.size + 1 + 1]? = some (.cells #[.int .i64 (D.states + n), .slice none 0 0, .slice none 0 0, .slice none 0 0] 36 (0, 0)) := by rw [hW]; exact blkNew _ _ (by simp)
  have hz : W.heap.size = w.heap.size + 3 := by rw [hW]; simp
  have HS : Hid (NSt w W (w.heap.size + 1 + 1) w.heap.size (D.states + n) (.slice none 0 0) (.slice none 0 0) (.slice none 0 0) [] [] []) :=
    ⟨Hb0.out, by omega, k2, Own3.nil _ _ _, OwnI.nil _ _, OwnI.nil _ _, ⟨Nat.le_refl _, by omega⟩, nofun⟩
  have H0 := Lib.hid h; clear h
  have hwr : IntKind.i64.wrap (D.states + n) = D.states + n := IntWalk.i64_in _ (by have := hD.1; omega)
  have HLN := Lib.hid (okN_len hD); have HR := Lib.hid (okN_rng hD)
  have Hn := Lib.hid hn
  have HW := Lib.hid hW; clear hW hD hn
  go_enter Try.func156, Try.ntmps156
  go_wp2_with (rw [← HW.out])
  clear HW Hb0 k2 hz hwr
  obtain ⟨g, hg⟩ : ∃ g, g = w.heap.size + 1 + 1 := ⟨_, rfl⟩
  have Hgw : Hid (w.heap.size + 1 < g) := Lib.hid (by omega)
  rw [← hg] at HS ⊢
  clear hg
  go_loopw [6] (fun i wr => ∃ (k : Nat) (vm : Value), k ≤ D.moves.length ∧ i = .int .i64 k ∧ Hid (NSt w wr g w.heap.size (D.states + n) vm (.slice none 0 0) (.slice none 0 0) ((D.moves.take k).map (sft n)) [] []) ∧ Hid (wr.heap[w.heap.size]? = some (.cells #[.int .i64 D.states, .slice a1 D.moves.length c1, .slice a2 D.firsts.length c2, .slice a3 D.ends.length c3] 36 (0, 0))) ∧ Hid (wr.heap[w.heap.size + 1]? = some (.cells #[.int .i64 0, .slice none 0 0, .slice none 0 0, .slice none 0 0] 36 (0, 0)))) (fun i _ => D.moves.length - (intOf i).toNat)
  case atStart => exact ⟨0, _, by omega, rfl, HS, K0, K1⟩
  case round =>
    obtain ⟨k, vm, hk, rfl, hs, h0, h1⟩ := hrel
    clear HS K0 K1
    obtain ⟨c0, d1, d2, d3⟩ := blk4 h0.out
    by_cases hlt : k < D.moves.length
    · obtain ⟨b, off, rfl, m0, m1, m2⟩ := (H0.out.stay (kpB hs.out.bel)).1.at hlt
      have Hst := Lib.hid (map_take_step (sft n) D.moves hlt)
      have hr := HR.out.2.2 _ (List.getElem_mem hlt)
      obtain ⟨x, y, z, hxy⟩ : ∃ x y z, D.moves[k] = (x, y, z) := ⟨_, _, _, rfl⟩
      rw [hxy] at m0 m1 m2 Hst hr
      clear hxy
      dsimp only at hr
      have hn := Hn.out
      have hw1 : IntKind.i64.wrap (x + n) = x + n := IntWalk.i64_in _ (by omega)
      have hw2 : IntKind.i64.wrap (z + n) = z + n := IntWalk.i64_in _ (by omega)
      obtain ⟨ms, hms⟩ : ∃ ms, ms = (D.moves.take k).map (sft n) := ⟨_, rfl⟩
      have Hms : Hid ((D.moves.take (k + 1)).map (sft n) = ms ++ [(x + n, y, z + n)]) := Lib.hid (by rw [hms, Hst.out]; rfl)
      rw [← hms] at hs
      have hml := Lib.hid (show ms.length ≤ 1000000000 from by rw [hms, List.length_map, List.length_take]; have := HLN.out; omega)
      clear hms Hst hr hn
      obtain ⟨vf, hvf⟩ : ∃ v, v = Value.slice none 0 0 := ⟨_, rfl⟩
      obtain ⟨ve, hve⟩ : ∃ v, v = Value.slice none 0 0 := ⟨_, rfl⟩
      have hs' : Hid (NSt w wr g w.heap.size (D.states + n) vm vf ve ms [] []) := Lib.hid (by rw [hvf, hve]; exact hs.out)
      have Hvf := Lib.hid hvf; have Hve := Lib.hid hve; clear hvf hve hs
      have hs := hs'; clear hs'
      obtain ⟨am, cm, hvm, _⟩ := hs.out.mv.shape
      obtain ⟨nm, hnm⟩ : ∃ nm, nm = ms.length := ⟨_, rfl⟩
      rw [← hnm] at hvm
      have Hnm := Lib.hid hnm; clear hnm
      subst hvm
      obtain ⟨e0, e1, e2, e3⟩ := blk4 hs.out.hd
      have HXD := Lib.hid (hs.out.stay (Below.refl _ _).drew)
      have h02 : Hid (wr.drew.heap[w.heap.size]? = _) := h0
      have h12 : Hid (wr.drew.heap[w.heap.size + 1]? = _) := h1
      have c0D : wr.drew.cell? ⟨w.heap.size, 0, none⟩ = _ := c0
      have d1D : wr.drew.cell? ⟨w.heap.size, 1, none⟩ = _ := d1
      have d2D : wr.drew.cell? ⟨w.heap.size, 2, none⟩ = _ := d2
      have d3D : wr.drew.cell? ⟨w.heap.size, 3, none⟩ = _ := d3
      have e1D : wr.drew.cell? ⟨g, 1, none⟩ = _ := e1
      have m0D : wr.drew.cell? ⟨b, off + k * 3, none⟩ = _ := m0
      have m1D : wr.drew.cell? ⟨b, off + k * 3 + 1, none⟩ = _ := m1
      have m2D : wr.drew.cell? ⟨b, off + k * 3 + 2, none⟩ = _ := m2
      have hltI : (k : Int) < (D.moves.length : Int) := by omega
      have hk0 : (0 : Int) ≤ (k : Int) := Int.natCast_nonneg _
      go_wp2_with fail
      refine wp_region_inv2 [(1, 0), (3, 2), (5, 3), (5, 4), (6, 5), (7, 6), (9, 7), (9, 8), (11, 10), (13, 11), (13, 12), (14, 13), (15, 14), (17, 16), (19, 17), (19, 18), (20, 19), (21, 20), (23, 21), (23, 22), (24, 9), (24, 15), (24, 23), (25, 24), (26, 1), (26, 25), (28, 26), (28, 27)] (fun listed a w' => ∃ (b0 b1 b2 b3 b4 b5 b6 b7 b8 b9 b10 b11 b12 b13 b14 b15 b16 b17 b18 b19 b20 b21 b22 b23 b24 b25 b26 b27 b28 : Bool) (x46 x47 : Value), listed = #[b0, b1, b2, b3, b4, b5, b6, b7, b8, b9, b10, b11, b12, b13, b14, b15, b16, b17, b18, b19, b20, b21, b22, b23, b24, b25, b26, b27, b28] ∧ a = { tmps := #[Value.agg #[Value.int IntKind.i64 D.states, Value.slice (some { block := b, off := off }) D.moves.length c1, Value.slice a2 D.firsts.length c2, Value.slice a3 D.ends.length c3], Value.int IntKind.i64 n, Value.pointer (some { block := w.heap.size, off := 0 }), undef, Value.pointer (some { block := w.heap.size + 1, off := 0 }), Value.pointer (some { block := g, off := 0 }), Value.int IntKind.i64 ↑k, undef, undef, Value.pointer (some { block := w.heap.size, off := 0 }), Value.int IntKind.i64 D.states, Value.int IntKind.i64 n, Value.int IntKind.i64 (D.states + n), Value.agg #[Value.int IntKind.i64 (D.states + n), Value.slice none 0 0, Value.slice none 0 0, Value.slice none 0 0], Value.int IntKind.i64 ↑k, Value.pointer (some { block := w.heap.size, off := 1 }), Value.slice (some { block := b, off := off }) D.moves.length c1, Value.int IntKind.i64 ↑D.moves.length, Value.bool true, u19, u20, cond b0 (.pointer (some ⟨g, 1, none⟩)) (u21), cond b1 (.slice am nm cm) (u22), cond b2 (.pointer (some ⟨w.heap.size, 1, none⟩)) (u23), cond b3 (.slice (some ⟨b, off, none⟩) D.moves.length c1) (u24), cond b4 (.int .i64 k) (u25), cond b5 (.pointer (some ⟨b, off + k * 3, none⟩)) (u26), cond b6 (.pointer (some ⟨b, off + k * 3, none⟩)) (u27), cond b7 (.int .i64 x) (u28), cond b8 (.int .i64 n) (u29), cond b9 (.int .i64 (x + n)) (u30), cond b10 (.pointer (some ⟨w.heap.size, 1, none⟩)) (u31), cond b11 (.slice (some ⟨b, off, none⟩) D.moves.length c1) (u32), cond b12 (.int .i64 k) (u33), cond b13 (.pointer (some ⟨b, off + k * 3, none⟩)) (u34), cond b14 (.pointer (some ⟨b, off + k * 3 + 1, none⟩)) (u35), cond b15 (.int .i64 y) (u36), cond b16 (.pointer (some ⟨w.heap.size, 1, none⟩)) (u37), cond b17 (.slice (some ⟨b, off, none⟩) D.moves.length c1) (u38), cond b18 (.int .i64 k) (u39), cond b19 (.pointer (some ⟨b, off + k * 3, none⟩)) (u40), cond b20 (.pointer (some ⟨b, off + k * 3 + 2, none⟩)) (u41), cond b21 (.int .i64 z) (u42), cond b22 (.int .i64 n) (u43), cond b23 (.int .i64 (z + n)) (u44), cond b24 (.agg #[.int .i64 (x + n), .int .i64 y, .int .i64 (z + n)]) (u45), x46, x47, cond b27 (.pointer (some ⟨g, 1, none⟩)) (u48), undef, undef, undef, undef, undef, undef, undef, undef, undef, undef, undef, undef, undef, undef, undef, undef, undef, undef, undef, undef, undef, undef, undef, undef, undef, undef, undef, undef, undef, undef, undef, undef, undef, undef, undef, undef, undef, undef, undef], defers := [] } ∧ Hid ((b25 = false → w' = wr.drew) ∧ (b25 = true → b26 = false → (w' = (wr.drew.alloc (.cells #[.int .i64 (x + n), .int .i64 y, .int .i64 (z + n)] 40)) ∧ x46 = .slice (some ⟨wr.heap.size, 0, none⟩) 1 1)) ∧ (b26 = true → b28 = false → (∃ (g7 : Nat) (cap7 : Nat), x47 = .slice (some ⟨g7, 0, none⟩) (ms.length + 1) cap7 ∧ Own3 w' w.heap.size 40 (.slice (some ⟨g7, 0, none⟩) (ms.length + 1) cap7) (ms ++ [((x + n), y, (z + n))]) ∧ wr.drew.grownBy w' (Value.slice am nm cm).ownBlock)) ∧ (b28 = true → (∃ vm', NSt w w' g w.heap.size (D.states + n) vm' vf ve (ms ++ [((x + n), y, (z + n))]) [] [] ∧ w'.heap[w.heap.size]? = some (.cells #[.int .i64 D.states, .slice (some ⟨b, off, none⟩) D.moves.length c1, .slice a2 D.firsts.length c2, .slice a3 D.ends.length c3] 36 (0, 0)) ∧ w'.heap[w.heap.size + 1]? = some (.cells #[.int .i64 0, .slice none 0 0, .slice none 0 0, .slice none 0 0] 36 (0, 0)))))) (fun G => ∀ (x46 x47 : Value) (w' : World), ((∃ vm', NSt w w' g w.heap.size (D.states + n) vm' vf ve (ms ++ [((x + n), y, (z + n))]) [] [] ∧ w'.heap[w.heap.size]? = some (.cells #[.int .i64 D.states, .slice (some ⟨b, off, none⟩) D.moves.length c1, .slice a2 D.firsts.length c2, .slice a3 D.ends.length c3] 36 (0, 0)) ∧ w'.heap[w.heap.size + 1]? = some (.cells #[.int .i64 0, .slice none 0 0, .slice none 0 0, .slice none 0 0] 36 (0, 0)))) → G { tmps := #[Value.agg #[Value.int IntKind.i64 D.states, Value.slice (some { block := b, off := off }) D.moves.length c1, Value.slice a2 D.firsts.length c2, Value.slice a3 D.ends.length c3], Value.int IntKind.i64 n, Value.pointer (some { block := w.heap.size, off := 0 }), undef, Value.pointer (some { block := w.heap.size + 1, off := 0 }), Value.pointer (some { block := g, off := 0 }), Value.int IntKind.i64 ↑k, undef, undef, Value.pointer (some { block := w.heap.size, off := 0 }), Value.int IntKind.i64 D.states, Value.int IntKind.i64 n, Value.int IntKind.i64 (D.states + n), Value.agg #[Value.int IntKind.i64 (D.states + n), Value.slice none 0 0, Value.slice none 0 0, Value.slice none 0 0], Value.int IntKind.i64 ↑k, Value.pointer (some { block := w.heap.size, off := 1 }), Value.slice (some { block := b, off := off }) D.moves.length c1, Value.int IntKind.i64 ↑D.moves.length, Value.bool true, u19, u20, .pointer (some ⟨g, 1, none⟩), .slice am nm cm, .pointer (some ⟨w.heap.size, 1, none⟩), .slice (some ⟨b, off, none⟩) D.moves.length c1, .int .i64 k, .pointer (some ⟨b, off + k * 3, none⟩), .pointer (some ⟨b, off + k * 3, none⟩), .int .i64 x, .int .i64 n, .int .i64 (x + n), .pointer (some ⟨w.heap.size, 1, none⟩), .slice (some ⟨b, off, none⟩) D.moves.length c1, .int .i64 k, .pointer (some ⟨b, off + k * 3, none⟩), .pointer (some ⟨b, off + k * 3 + 1, none⟩), .int .i64 y, .pointer (some ⟨w.heap.size, 1, none⟩), .slice (some ⟨b, off, none⟩) D.moves.length c1, .int .i64 k, .pointer (some ⟨b, off + k * 3, none⟩), .pointer (some ⟨b, off + k * 3 + 2, none⟩), .int .i64 z, .int .i64 n, .int .i64 (z + n), .agg #[.int .i64 (x + n), .int .i64 y, .int .i64 (z + n)], x46, x47, .pointer (some ⟨g, 1, none⟩), undef, undef, undef, undef, undef, undef, undef, undef, undef, undef, undef, undef, undef, undef, undef, undef, undef, undef, undef, undef, undef, undef, undef, undef, undef, undef, undef, undef, undef, undef, undef, undef, undef, undef, undef, undef, undef, undef, undef], defers := [] } w') (by kernel_rfl) (by kernel_rfl) (by kernel_rfl) (by kernel_rfl) ?_ ?_ ?_ ?_
      · exact ⟨false, false, false, false, false, false, false, false, false, false, false, false, false, false, false, false, false, false, false, false, false, false, false, false, false, false, false, false, false, u46, u47, rfl, rfl, Lib.hid ⟨fun _ => rfl, nofun, nofun, nofun⟩⟩
      · refine StepsU.cons ?_ ?_
        · intro Q E0 listed a w' hI hM hk haft K hK
          obtain ⟨b0, b1, b2, b3, b4, b5, b6, b7, b8, b9, b10, b11, b12, b13, b14, b15, b16, b17, b18, b19, b20, b21, b22, b23, b24, b25, b26, b27, b28, x46, x47, hl, ha, HF⟩ := hI
          subst hl; subst ha
          obtain ⟨G, G25, G26, G28⟩ := HF.out
          clear HF
          have hk' : b0 = false := hk
          subst hk'
          clear hk
          obtain rfl : b1 = false := by cases b1 with | false => rfl | true => exact absurd (hM 1 0 rfl rfl) Bool.false_ne_true
          obtain rfl : b26 = false := by cases b26 with | false => rfl | true => exact absurd (hM 26 1 rfl rfl) Bool.false_ne_true
          obtain rfl : b28 = false := by cases b28 with | false => rfl | true => exact absurd (hM 28 26 rfl rfl) Bool.false_ne_true
          clear haft
          go_simp
          exact hK _ _ ⟨true, false, b2, b3, b4, b5, b6, b7, b8, b9, b10, b11, b12, b13, b14, b15, b16, b17, b18, b19, b20, b21, b22, b23, b24, b25, false, b27, false, _, _, rfl, rfl, Lib.hid ⟨G, G25, nofun, nofun⟩⟩
        refine StepsU.cons ?_ ?_
        · intro Q E0 listed a w' hI hM hk haft K hK
          obtain ⟨b0, b1, b2, b3, b4, b5, b6, b7, b8, b9, b10, b11, b12, b13, b14, b15, b16, b17, b18, b19, b20, b21, b22, b23, b24, b25, b26, b27, b28, x46, x47, hl, ha, HF⟩ := hI
          subst hl; subst ha
          obtain ⟨G, G25, G26, G28⟩ := HF.out
          clear HF
          have hk' : b1 = false := hk
          subst hk'
          clear hk
          obtain rfl : b26 = false := by cases b26 with | false => rfl | true => exact absurd (hM 26 1 rfl rfl) Bool.false_ne_true
          obtain rfl : b28 = false := by cases b28 with | false => rfl | true => exact absurd (hM 28 26 rfl rfl) Bool.false_ne_true
          obtain rfl : b0 = true := haft ⟨0, .data⟩ (by simp) rfl
          clear haft
          have e1W : w'.cell? ⟨g, 1, none⟩ = some (.slice am nm cm) := by cases b25 with | false => (rw [G rfl]; exact e1D) | true => (rw [(G25 rfl rfl).1]; exact kpAlloc (S := fun _ => True) _ _ trivial e1D)
          go_simp
          exact hK _ _ ⟨true, true, b2, b3, b4, b5, b6, b7, b8, b9, b10, b11, b12, b13, b14, b15, b16, b17, b18, b19, b20, b21, b22, b23, b24, b25, false, b27, false, _, _, rfl, rfl, Lib.hid ⟨G, G25, nofun, nofun⟩⟩
        refine StepsU.cons ?_ ?_
        · intro Q E0 listed a w' hI hM hk haft K hK
          obtain ⟨b0, b1, b2, b3, b4, b5, b6, b7, b8, b9, b10, b11, b12, b13, b14, b15, b16, b17, b18, b19, b20, b21, b22, b23, b24, b25, b26, b27, b28, x46, x47, hl, ha, HF⟩ := hI
          subst hl; subst ha
          obtain ⟨G, G25, G26, G28⟩ := HF.out
          clear HF
          have hk' : b2 = false := hk
          subst hk'
          clear hk
          obtain rfl : b3 = false := by cases b3 with | false => rfl | true => exact absurd (hM 3 2 rfl rfl) Bool.false_ne_true
          obtain rfl : b5 = false := by cases b5 with | false => rfl | true => exact absurd (hM 5 3 rfl rfl) Bool.false_ne_true
          obtain rfl : b6 = false := by cases b6 with | false => rfl | true => exact absurd (hM 6 5 rfl rfl) Bool.false_ne_true
          obtain rfl : b7 = false := by cases b7 with | false => rfl | true => exact absurd (hM 7 6 rfl rfl) Bool.false_ne_true
          obtain rfl : b9 = false := by cases b9 with | false => rfl | true => exact absurd (hM 9 7 rfl rfl) Bool.false_ne_true
          obtain rfl : b24 = false := by cases b24 with | false => rfl | true => exact absurd (hM 24 9 rfl rfl) Bool.false_ne_true
          obtain rfl : b25 = false := by cases b25 with | false => rfl | true => exact absurd (hM 25 24 rfl rfl) Bool.false_ne_true
          obtain rfl : b26 = false := by cases b26 with | false => rfl | true => exact absurd (hM 26 25 rfl rfl) Bool.false_ne_true
          obtain rfl : b28 = false := by cases b28 with | false => rfl | true => exact absurd (hM 28 26 rfl rfl) Bool.false_ne_true
          clear haft
          obtain rfl := G rfl
          go_simp
          exact hK _ _ ⟨b0, b1, true, false, b4, false, false, false, b8, false, b10, b11, b12, b13, b14, b15, b16, b17, b18, b19, b20, b21, b22, b23, false, false, false, b27, false, _, _, rfl, rfl, Lib.hid ⟨fun _ => rfl, nofun, nofun, nofun⟩⟩
        refine StepsU.cons ?_ ?_
        · intro Q E0 listed a w' hI hM hk haft K hK
          obtain ⟨b0, b1, b2, b3, b4, b5, b6, b7, b8, b9, b10, b11, b12, b13, b14, b15, b16, b17, b18, b19, b20, b21, b22, b23, b24, b25, b26, b27, b28, x46, x47, hl, ha, HF⟩ := hI
          subst hl; subst ha
          obtain ⟨G, G25, G26, G28⟩ := HF.out
          clear HF
          have hk' : b3 = false := hk
          subst hk'
          clear hk
          obtain rfl : b5 = false := by cases b5 with | false => rfl | true => exact absurd (hM 5 3 rfl rfl) Bool.false_ne_true
          obtain rfl : b6 = false := by cases b6 with | false => rfl | true => exact absurd (hM 6 5 rfl rfl) Bool.false_ne_true
          obtain rfl : b7 = false := by cases b7 with | false => rfl | true => exact absurd (hM 7 6 rfl rfl) Bool.false_ne_true
          obtain rfl : b9 = false := by cases b9 with | false => rfl | true => exact absurd (hM 9 7 rfl rfl) Bool.false_ne_true
          obtain rfl : b24 = false := by cases b24 with | false => rfl | true => exact absurd (hM 24 9 rfl rfl) Bool.false_ne_true
          obtain rfl : b25 = false := by cases b25 with | false => rfl | true => exact absurd (hM 25 24 rfl rfl) Bool.false_ne_true
          obtain rfl : b26 = false := by cases b26 with | false => rfl | true => exact absurd (hM 26 25 rfl rfl) Bool.false_ne_true
          obtain rfl : b28 = false := by cases b28 with | false => rfl | true => exact absurd (hM 28 26 rfl rfl) Bool.false_ne_true
          obtain rfl : b2 = true := haft ⟨2, .data⟩ (by simp) rfl
          clear haft
          obtain rfl := G rfl
          go_simp
          exact hK _ _ ⟨b0, b1, true, true, b4, false, false, false, b8, false, b10, b11, b12, b13, b14, b15, b16, b17, b18, b19, b20, b21, b22, b23, false, false, false, b27, false, _, _, rfl, rfl, Lib.hid ⟨fun _ => rfl, nofun, nofun, nofun⟩⟩
        refine StepsU.cons ?_ ?_
        · intro Q E0 listed a w' hI hM hk haft K hK
          obtain ⟨b0, b1, b2, b3, b4, b5, b6, b7, b8, b9, b10, b11, b12, b13, b14, b15, b16, b17, b18, b19, b20, b21, b22, b23, b24, b25, b26, b27, b28, x46, x47, hl, ha, HF⟩ := hI
          subst hl; subst ha
          obtain ⟨G, G25, G26, G28⟩ := HF.out
          clear HF
          have hk' : b4 = false := hk
          subst hk'
          clear hk
          obtain rfl : b5 = false := by cases b5 with | false => rfl | true => exact absurd (hM 5 4 rfl rfl) Bool.false_ne_true
          obtain rfl : b6 = false := by cases b6 with | false => rfl | true => exact absurd (hM 6 5 rfl rfl) Bool.false_ne_true
          obtain rfl : b7 = false := by cases b7 with | false => rfl | true => exact absurd (hM 7 6 rfl rfl) Bool.false_ne_true
          obtain rfl : b9 = false := by cases b9 with | false => rfl | true => exact absurd (hM 9 7 rfl rfl) Bool.false_ne_true
          obtain rfl : b24 = false := by cases b24 with | false => rfl | true => exact absurd (hM 24 9 rfl rfl) Bool.false_ne_true
          obtain rfl : b25 = false := by cases b25 with | false => rfl | true => exact absurd (hM 25 24 rfl rfl) Bool.false_ne_true
          obtain rfl : b26 = false := by cases b26 with | false => rfl | true => exact absurd (hM 26 25 rfl rfl) Bool.false_ne_true
          obtain rfl : b28 = false := by cases b28 with | false => rfl | true => exact absurd (hM 28 26 rfl rfl) Bool.false_ne_true
          clear haft
          obtain rfl := G rfl
          go_simp
          exact hK _ _ ⟨b0, b1, b2, b3, true, false, false, false, b8, false, b10, b11, b12, b13, b14, b15, b16, b17, b18, b19, b20, b21, b22, b23, false, false, false, b27, false, _, _, rfl, rfl, Lib.hid ⟨fun _ => rfl, nofun, nofun, nofun⟩⟩
        refine StepsU.cons ?_ ?_
        · intro Q E0 listed a w' hI hM hk haft K hK
          obtain ⟨b0, b1, b2, b3, b4, b5, b6, b7, b8, b9, b10, b11, b12, b13, b14, b15, b16, b17, b18, b19, b20, b21, b22, b23, b24, b25, b26, b27, b28, x46, x47, hl, ha, HF⟩ := hI
          subst hl; subst ha
          obtain ⟨G, G25, G26, G28⟩ := HF.out
          clear HF
          have hk' : b5 = false := hk
          subst hk'
          clear hk
          obtain rfl : b6 = false := by cases b6 with | false => rfl | true => exact absurd (hM 6 5 rfl rfl) Bool.false_ne_true
          obtain rfl : b7 = false := by cases b7 with | false => rfl | true => exact absurd (hM 7 6 rfl rfl) Bool.false_ne_true
          obtain rfl : b9 = false := by cases b9 with | false => rfl | true => exact absurd (hM 9 7 rfl rfl) Bool.false_ne_true
          obtain rfl : b24 = false := by cases b24 with | false => rfl | true => exact absurd (hM 24 9 rfl rfl) Bool.false_ne_true
          obtain rfl : b25 = false := by cases b25 with | false => rfl | true => exact absurd (hM 25 24 rfl rfl) Bool.false_ne_true
          obtain rfl : b26 = false := by cases b26 with | false => rfl | true => exact absurd (hM 26 25 rfl rfl) Bool.false_ne_true
          obtain rfl : b28 = false := by cases b28 with | false => rfl | true => exact absurd (hM 28 26 rfl rfl) Bool.false_ne_true
          obtain rfl : b3 = true := haft ⟨3, .data⟩ (by simp) rfl
          obtain rfl : b4 = true := haft ⟨4, .data⟩ (by simp) rfl
          obtain rfl : b2 = true := hM 3 2 rfl rfl
          clear haft
          obtain rfl := G rfl
          go_simp
          exact hK _ _ ⟨b0, b1, true, true, true, true, false, false, b8, false, b10, b11, b12, b13, b14, b15, b16, b17, b18, b19, b20, b21, b22, b23, false, false, false, b27, false, _, _, rfl, rfl, Lib.hid ⟨fun _ => rfl, nofun, nofun, nofun⟩⟩
        refine StepsU.cons ?_ ?_
        · intro Q E0 listed a w' hI hM hk haft K hK
          obtain ⟨b0, b1, b2, b3, b4, b5, b6, b7, b8, b9, b10, b11, b12, b13, b14, b15, b16, b17, b18, b19, b20, b21, b22, b23, b24, b25, b26, b27, b28, x46, x47, hl, ha, HF⟩ := hI
          subst hl; subst ha
          obtain ⟨G, G25, G26, G28⟩ := HF.out
          clear HF
          have hk' : b6 = false := hk
          subst hk'
          clear hk
          obtain rfl : b7 = false := by cases b7 with | false => rfl | true => exact absurd (hM 7 6 rfl rfl) Bool.false_ne_true
          obtain rfl : b9 = false := by cases b9 with | false => rfl | true => exact absurd (hM 9 7 rfl rfl) Bool.false_ne_true
          obtain rfl : b24 = false := by cases b24 with | false => rfl | true => exact absurd (hM 24 9 rfl rfl) Bool.false_ne_true
          obtain rfl : b25 = false := by cases b25 with | false => rfl | true => exact absurd (hM 25 24 rfl rfl) Bool.false_ne_true
          obtain rfl : b26 = false := by cases b26 with | false => rfl | true => exact absurd (hM 26 25 rfl rfl) Bool.false_ne_true
          obtain rfl : b28 = false := by cases b28 with | false => rfl | true => exact absurd (hM 28 26 rfl rfl) Bool.false_ne_true
          obtain rfl : b5 = true := haft ⟨5, .data⟩ (by simp) rfl
          obtain rfl : b3 = true := hM 5 3 rfl rfl
          obtain rfl : b4 = true := hM 5 4 rfl rfl
          obtain rfl : b2 = true := hM 3 2 rfl rfl
          clear haft
          obtain rfl := G rfl
          go_simp
          exact hK _ _ ⟨b0, b1, true, true, true, true, true, false, b8, false, b10, b11, b12, b13, b14, b15, b16, b17, b18, b19, b20, b21, b22, b23, false, false, false, b27, false, _, _, rfl, rfl, Lib.hid ⟨fun _ => rfl, nofun, nofun, nofun⟩⟩
        refine StepsU.cons ?_ ?_
        · intro Q E0 listed a w' hI hM hk haft K hK
          obtain ⟨b0, b1, b2, b3, b4, b5, b6, b7, b8, b9, b10, b11, b12, b13, b14, b15, b16, b17, b18, b19, b20, b21, b22, b23, b24, b25, b26, b27, b28, x46, x47, hl, ha, HF⟩ := hI
          subst hl; subst ha
          obtain ⟨G, G25, G26, G28⟩ := HF.out
          clear HF
          have hk' : b7 = false := hk
          subst hk'
          clear hk
          obtain rfl : b9 = false := by cases b9 with | false => rfl | true => exact absurd (hM 9 7 rfl rfl) Bool.false_ne_true
          obtain rfl : b24 = false := by cases b24 with | false => rfl | true => exact absurd (hM 24 9 rfl rfl) Bool.false_ne_true
          obtain rfl : b25 = false := by cases b25 with | false => rfl | true => exact absurd (hM 25 24 rfl rfl) Bool.false_ne_true
          obtain rfl : b26 = false := by cases b26 with | false => rfl | true => exact absurd (hM 26 25 rfl rfl) Bool.false_ne_true
          obtain rfl : b28 = false := by cases b28 with | false => rfl | true => exact absurd (hM 28 26 rfl rfl) Bool.false_ne_true
          obtain rfl : b6 = true := haft ⟨6, .data⟩ (by simp) rfl
          obtain rfl : b5 = true := hM 6 5 rfl rfl
          obtain rfl : b3 = true := hM 5 3 rfl rfl
          obtain rfl : b4 = true := hM 5 4 rfl rfl
          obtain rfl : b2 = true := hM 3 2 rfl rfl
          clear haft
          obtain rfl := G rfl
          go_simp
          exact hK _ _ ⟨b0, b1, true, true, true, true, true, true, b8, false, b10, b11, b12, b13, b14, b15, b16, b17, b18, b19, b20, b21, b22, b23, false, false, false, b27, false, _, _, rfl, rfl, Lib.hid ⟨fun _ => rfl, nofun, nofun, nofun⟩⟩
        refine StepsU.cons ?_ ?_
        · intro Q E0 listed a w' hI hM hk haft K hK
          obtain ⟨b0, b1, b2, b3, b4, b5, b6, b7, b8, b9, b10, b11, b12, b13, b14, b15, b16, b17, b18, b19, b20, b21, b22, b23, b24, b25, b26, b27, b28, x46, x47, hl, ha, HF⟩ := hI
          subst hl; subst ha
          obtain ⟨G, G25, G26, G28⟩ := HF.out
          clear HF
          have hk' : b8 = false := hk
          subst hk'
          clear hk
          obtain rfl : b9 = false := by cases b9 with | false => rfl | true => exact absurd (hM 9 8 rfl rfl) Bool.false_ne_true
          obtain rfl : b24 = false := by cases b24 with | false => rfl | true => exact absurd (hM 24 9 rfl rfl) Bool.false_ne_true
          obtain rfl : b25 = false := by cases b25 with | false => rfl | true => exact absurd (hM 25 24 rfl rfl) Bool.false_ne_true
          obtain rfl : b26 = false := by cases b26 with | false => rfl | true => exact absurd (hM 26 25 rfl rfl) Bool.false_ne_true
          obtain rfl : b28 = false := by cases b28 with | false => rfl | true => exact absurd (hM 28 26 rfl rfl) Bool.false_ne_true
          clear haft
          obtain rfl := G rfl
          go_simp
          exact hK _ _ ⟨b0, b1, b2, b3, b4, b5, b6, b7, true, false, b10, b11, b12, b13, b14, b15, b16, b17, b18, b19, b20, b21, b22, b23, false, false, false, b27, false, _, _, rfl, rfl, Lib.hid ⟨fun _ => rfl, nofun, nofun, nofun⟩⟩
        refine StepsU.cons ?_ ?_
        · intro Q E0 listed a w' hI hM hk haft K hK
          obtain ⟨b0, b1, b2, b3, b4, b5, b6, b7, b8, b9, b10, b11, b12, b13, b14, b15, b16, b17, b18, b19, b20, b21, b22, b23, b24, b25, b26, b27, b28, x46, x47, hl, ha, HF⟩ := hI
          subst hl; subst ha
          obtain ⟨G, G25, G26, G28⟩ := HF.out
          clear HF
          have hk' : b9 = false := hk
          subst hk'
          clear hk
          obtain rfl : b24 = false := by cases b24 with | false => rfl | true => exact absurd (hM 24 9 rfl rfl) Bool.false_ne_true
          obtain rfl : b25 = false := by cases b25 with | false => rfl | true => exact absurd (hM 25 24 rfl rfl) Bool.false_ne_true
          obtain rfl : b26 = false := by cases b26 with | false => rfl | true => exact absurd (hM 26 25 rfl rfl) Bool.false_ne_true
          obtain rfl : b28 = false := by cases b28 with | false => rfl | true => exact absurd (hM 28 26 rfl rfl) Bool.false_ne_true
          obtain rfl : b7 = true := haft ⟨7, .data⟩ (by simp) rfl
          obtain rfl : b8 = true := haft ⟨8, .data⟩ (by simp) rfl
          obtain rfl : b6 = true := hM 7 6 rfl rfl
          obtain rfl : b5 = true := hM 6 5 rfl rfl
          obtain rfl : b3 = true := hM 5 3 rfl rfl
          obtain rfl : b4 = true := hM 5 4 rfl rfl
          obtain rfl : b2 = true := hM 3 2 rfl rfl
          clear haft
          obtain rfl := G rfl
          go_simp
          exact hK _ _ ⟨b0, b1, true, true, true, true, true, true, true, true, b10, b11, b12, b13, b14, b15, b16, b17, b18, b19, b20, b21, b22, b23, false, false, false, b27, false, _, _, rfl, rfl, Lib.hid ⟨fun _ => rfl, nofun, nofun, nofun⟩⟩
        refine StepsU.cons ?_ ?_
        · intro Q E0 listed a w' hI hM hk haft K hK
          obtain ⟨b0, b1, b2, b3, b4, b5, b6, b7, b8, b9, b10, b11, b12, b13, b14, b15, b16, b17, b18, b19, b20, b21, b22, b23, b24, b25, b26, b27, b28, x46, x47, hl, ha, HF⟩ := hI
          subst hl; subst ha
          obtain ⟨G, G25, G26, G28⟩ := HF.out
          clear HF
          have hk' : b10 = false := hk
          subst hk'
          clear hk
          obtain rfl : b11 = false := by cases b11 with | false => rfl | true => exact absurd (hM 11 10 rfl rfl) Bool.false_ne_true
          obtain rfl : b13 = false := by cases b13 with | false => rfl | true => exact absurd (hM 13 11 rfl rfl) Bool.false_ne_true
          obtain rfl : b14 = false := by cases b14 with | false => rfl | true => exact absurd (hM 14 13 rfl rfl) Bool.false_ne_true
          obtain rfl : b15 = false := by cases b15 with | false => rfl | true => exact absurd (hM 15 14 rfl rfl) Bool.false_ne_true
          obtain rfl : b24 = false := by cases b24 with | false => rfl | true => exact absurd (hM 24 15 rfl rfl) Bool.false_ne_true
          obtain rfl : b25 = false := by cases b25 with | false => rfl | true => exact absurd (hM 25 24 rfl rfl) Bool.false_ne_true
          obtain rfl : b26 = false := by cases b26 with | false => rfl | true => exact absurd (hM 26 25 rfl rfl) Bool.false_ne_true
          obtain rfl : b28 = false := by cases b28 with | false => rfl | true => exact absurd (hM 28 26 rfl rfl) Bool.false_ne_true
          clear haft
          obtain rfl := G rfl
          go_simp
          exact hK _ _ ⟨b0, b1, b2, b3, b4, b5, b6, b7, b8, b9, true, false, b12, false, false, false, b16, b17, b18, b19, b20, b21, b22, b23, false, false, false, b27, false, _, _, rfl, rfl, Lib.hid ⟨fun _ => rfl, nofun, nofun, nofun⟩⟩
        refine StepsU.cons ?_ ?_
        · intro Q E0 listed a w' hI hM hk haft K hK
          obtain ⟨b0, b1, b2, b3, b4, b5, b6, b7, b8, b9, b10, b11, b12, b13, b14, b15, b16, b17, b18, b19, b20, b21, b22, b23, b24, b25, b26, b27, b28, x46, x47, hl, ha, HF⟩ := hI
          subst hl; subst ha
          obtain ⟨G, G25, G26, G28⟩ := HF.out
          clear HF
          have hk' : b11 = false := hk
          subst hk'
          clear hk
          obtain rfl : b13 = false := by cases b13 with | false => rfl | true => exact absurd (hM 13 11 rfl rfl) Bool.false_ne_true
          obtain rfl : b14 = false := by cases b14 with | false => rfl | true => exact absurd (hM 14 13 rfl rfl) Bool.false_ne_true
          obtain rfl : b15 = false := by cases b15 with | false => rfl | true => exact absurd (hM 15 14 rfl rfl) Bool.false_ne_true
          obtain rfl : b24 = false := by cases b24 with | false => rfl | true => exact absurd (hM 24 15 rfl rfl) Bool.false_ne_true
          obtain rfl : b25 = false := by cases b25 with | false => rfl | true => exact absurd (hM 25 24 rfl rfl) Bool.false_ne_true
          obtain rfl : b26 = false := by cases b26 with | false => rfl | true => exact absurd (hM 26 25 rfl rfl) Bool.false_ne_true
          obtain rfl : b28 = false := by cases b28 with | false => rfl | true => exact absurd (hM 28 26 rfl rfl) Bool.false_ne_true
          obtain rfl : b10 = true := haft ⟨10, .data⟩ (by simp) rfl
          clear haft
          obtain rfl := G rfl
          go_simp
          exact hK _ _ ⟨b0, b1, b2, b3, b4, b5, b6, b7, b8, b9, true, true, b12, false, false, false, b16, b17, b18, b19, b20, b21, b22, b23, false, false, false, b27, false, _, _, rfl, rfl, Lib.hid ⟨fun _ => rfl, nofun, nofun, nofun⟩⟩
        refine StepsU.cons ?_ ?_
        · intro Q E0 listed a w' hI hM hk haft K hK
          obtain ⟨b0, b1, b2, b3, b4, b5, b6, b7, b8, b9, b10, b11, b12, b13, b14, b15, b16, b17, b18, b19, b20, b21, b22, b23, b24, b25, b26, b27, b28, x46, x47, hl, ha, HF⟩ := hI
          subst hl; subst ha
          obtain ⟨G, G25, G26, G28⟩ := HF.out
          clear HF
          have hk' : b12 = false := hk
          subst hk'
          clear hk
          obtain rfl : b13 = false := by cases b13 with | false => rfl | true => exact absurd (hM 13 12 rfl rfl) Bool.false_ne_true
          obtain rfl : b14 = false := by cases b14 with | false => rfl | true => exact absurd (hM 14 13 rfl rfl) Bool.false_ne_true
          obtain rfl : b15 = false := by cases b15 with | false => rfl | true => exact absurd (hM 15 14 rfl rfl) Bool.false_ne_true
          obtain rfl : b24 = false := by cases b24 with | false => rfl | true => exact absurd (hM 24 15 rfl rfl) Bool.false_ne_true
          obtain rfl : b25 = false := by cases b25 with | false => rfl | true => exact absurd (hM 25 24 rfl rfl) Bool.false_ne_true
          obtain rfl : b26 = false := by cases b26 with | false => rfl | true => exact absurd (hM 26 25 rfl rfl) Bool.false_ne_true
          obtain rfl : b28 = false := by cases b28 with | false => rfl | true => exact absurd (hM 28 26 rfl rfl) Bool.false_ne_true
          clear haft
          obtain rfl := G rfl
          go_simp
          exact hK _ _ ⟨b0, b1, b2, b3, b4, b5, b6, b7, b8, b9, b10, b11, true, false, false, false, b16, b17, b18, b19, b20, b21, b22, b23, false, false, false, b27, false, _, _, rfl, rfl, Lib.hid ⟨fun _ => rfl, nofun, nofun, nofun⟩⟩
        refine StepsU.cons ?_ ?_
        · intro Q E0 listed a w' hI hM hk haft K hK
          obtain ⟨b0, b1, b2, b3, b4, b5, b6, b7, b8, b9, b10, b11, b12, b13, b14, b15, b16, b17, b18, b19, b20, b21, b22, b23, b24, b25, b26, b27, b28, x46, x47, hl, ha, HF⟩ := hI
          subst hl; subst ha
          obtain ⟨G, G25, G26, G28⟩ := HF.out
          clear HF
          have hk' : b13 = false := hk
          subst hk'
          clear hk
          obtain rfl : b14 = false := by cases b14 with | false => rfl | true => exact absurd (hM 14 13 rfl rfl) Bool.false_ne_true
          obtain rfl : b15 = false := by cases b15 with | false => rfl | true => exact absurd (hM 15 14 rfl rfl) Bool.false_ne_true
          obtain rfl : b24 = false := by cases b24 with | false => rfl | true => exact absurd (hM 24 15 rfl rfl) Bool.false_ne_true
          obtain rfl : b25 = false := by cases b25 with | false => rfl | true => exact absurd (hM 25 24 rfl rfl) Bool.false_ne_true
          obtain rfl : b26 = false := by cases b26 with | false => rfl | true => exact absurd (hM 26 25 rfl rfl) Bool.false_ne_true
          obtain rfl : b28 = false := by cases b28 with | false => rfl | true => exact absurd (hM 28 26 rfl rfl) Bool.false_ne_true
          obtain rfl : b11 = true := haft ⟨11, .data⟩ (by simp) rfl
          obtain rfl : b12 = true := haft ⟨12, .data⟩ (by simp) rfl
          obtain rfl : b10 = true := hM 11 10 rfl rfl
          clear haft
          obtain rfl := G rfl
          go_simp
          exact hK _ _ ⟨b0, b1, b2, b3, b4, b5, b6, b7, b8, b9, true, true, true, true, false, false, b16, b17, b18, b19, b20, b21, b22, b23, false, false, false, b27, false, _, _, rfl, rfl, Lib.hid ⟨fun _ => rfl, nofun, nofun, nofun⟩⟩
        refine StepsU.cons ?_ ?_
        · intro Q E0 listed a w' hI hM hk haft K hK
          obtain ⟨b0, b1, b2, b3, b4, b5, b6, b7, b8, b9, b10, b11, b12, b13, b14, b15, b16, b17, b18, b19, b20, b21, b22, b23, b24, b25, b26, b27, b28, x46, x47, hl, ha, HF⟩ := hI
          subst hl; subst ha
          obtain ⟨G, G25, G26, G28⟩ := HF.out
          clear HF
          have hk' : b14 = false := hk
          subst hk'
          clear hk
          obtain rfl : b15 = false := by cases b15 with | false => rfl | true => exact absurd (hM 15 14 rfl rfl) Bool.false_ne_true
          obtain rfl : b24 = false := by cases b24 with | false => rfl | true => exact absurd (hM 24 15 rfl rfl) Bool.false_ne_true
          obtain rfl : b25 = false := by cases b25 with | false => rfl | true => exact absurd (hM 25 24 rfl rfl) Bool.false_ne_true
          obtain rfl : b26 = false := by cases b26 with | false => rfl | true => exact absurd (hM 26 25 rfl rfl) Bool.false_ne_true
          obtain rfl : b28 = false := by cases b28 with | false => rfl | true => exact absurd (hM 28 26 rfl rfl) Bool.false_ne_true
          obtain rfl : b13 = true := haft ⟨13, .data⟩ (by simp) rfl
          obtain rfl : b11 = true := hM 13 11 rfl rfl
          obtain rfl : b12 = true := hM 13 12 rfl rfl
          obtain rfl : b10 = true := hM 11 10 rfl rfl
          clear haft
          obtain rfl := G rfl
          go_simp
          exact hK _ _ ⟨b0, b1, b2, b3, b4, b5, b6, b7, b8, b9, true, true, true, true, true, false, b16, b17, b18, b19, b20, b21, b22, b23, false, false, false, b27, false, _, _, rfl, rfl, Lib.hid ⟨fun _ => rfl, nofun, nofun, nofun⟩⟩
        refine StepsU.cons ?_ ?_
        · intro Q E0 listed a w' hI hM hk haft K hK
          obtain ⟨b0, b1, b2, b3, b4, b5, b6, b7, b8, b9, b10, b11, b12, b13, b14, b15, b16, b17, b18, b19, b20, b21, b22, b23, b24, b25, b26, b27, b28, x46, x47, hl, ha, HF⟩ := hI
          subst hl; subst ha
          obtain ⟨G, G25, G26, G28⟩ := HF.out
          clear HF
          have hk' : b15 = false := hk
          subst hk'
          clear hk
          obtain rfl : b24 = false := by cases b24 with | false => rfl | true => exact absurd (hM 24 15 rfl rfl) Bool.false_ne_true
          obtain rfl : b25 = false := by cases b25 with | false => rfl | true => exact absurd (hM 25 24 rfl rfl) Bool.false_ne_true
          obtain rfl : b26 = false := by cases b26 with | false => rfl | true => exact absurd (hM 26 25 rfl rfl) Bool.false_ne_true
          obtain rfl : b28 = false := by cases b28 with | false => rfl | true => exact absurd (hM 28 26 rfl rfl) Bool.false_ne_true
          obtain rfl : b14 = true := haft ⟨14, .data⟩ (by simp) rfl
          obtain rfl : b13 = true := hM 14 13 rfl rfl
          obtain rfl : b11 = true := hM 13 11 rfl rfl
          obtain rfl : b12 = true := hM 13 12 rfl rfl
          obtain rfl : b10 = true := hM 11 10 rfl rfl
          clear haft
          obtain rfl := G rfl
          go_simp
          exact hK _ _ ⟨b0, b1, b2, b3, b4, b5, b6, b7, b8, b9, true, true, true, true, true, true, b16, b17, b18, b19, b20, b21, b22, b23, false, false, false, b27, false, _, _, rfl, rfl, Lib.hid ⟨fun _ => rfl, nofun, nofun, nofun⟩⟩
        refine StepsU.cons ?_ ?_
        · intro Q E0 listed a w' hI hM hk haft K hK
          obtain ⟨b0, b1, b2, b3, b4, b5, b6, b7, b8, b9, b10, b11, b12, b13, b14, b15, b16, b17, b18, b19, b20, b21, b22, b23, b24, b25, b26, b27, b28, x46, x47, hl, ha, HF⟩ := hI
          subst hl; subst ha
          obtain ⟨G, G25, G26, G28⟩ := HF.out
          clear HF
          have hk' : b16 = false := hk
          subst hk'
          clear hk
          obtain rfl : b17 = false := by cases b17 with | false => rfl | true => exact absurd (hM 17 16 rfl rfl) Bool.false_ne_true
          obtain rfl : b19 = false := by cases b19 with | false => rfl | true => exact absurd (hM 19 17 rfl rfl) Bool.false_ne_true
          obtain rfl : b20 = false := by cases b20 with | false => rfl | true => exact absurd (hM 20 19 rfl rfl) Bool.false_ne_true
          obtain rfl : b21 = false := by cases b21 with | false => rfl | true => exact absurd (hM 21 20 rfl rfl) Bool.false_ne_true
          obtain rfl : b23 = false := by cases b23 with | false => rfl | true => exact absurd (hM 23 21 rfl rfl) Bool.false_ne_true
          obtain rfl : b24 = false := by cases b24 with | false => rfl | true => exact absurd (hM 24 23 rfl rfl) Bool.false_ne_true
          obtain rfl : b25 = false := by cases b25 with | false => rfl | true => exact absurd (hM 25 24 rfl rfl) Bool.false_ne_true
          obtain rfl : b26 = false := by cases b26 with | false => rfl | true => exact absurd (hM 26 25 rfl rfl) Bool.false_ne_true
          obtain rfl : b28 = false := by cases b28 with | false => rfl | true => exact absurd (hM 28 26 rfl rfl) Bool.false_ne_true
          clear haft
          obtain rfl := G rfl
          go_simp
          exact hK _ _ ⟨b0, b1, b2, b3, b4, b5, b6, b7, b8, b9, b10, b11, b12, b13, b14, b15, true, false, b18, false, false, false, b22, false, false, false, false, b27, false, _, _, rfl, rfl, Lib.hid ⟨fun _ => rfl, nofun, nofun, nofun⟩⟩
        refine StepsU.cons ?_ ?_
        · intro Q E0 listed a w' hI hM hk haft K hK
          obtain ⟨b0, b1, b2, b3, b4, b5, b6, b7, b8, b9, b10, b11, b12, b13, b14, b15, b16, b17, b18, b19, b20, b21, b22, b23, b24, b25, b26, b27, b28, x46, x47, hl, ha, HF⟩ := hI
          subst hl; subst ha
          obtain ⟨G, G25, G26, G28⟩ := HF.out
          clear HF
          have hk' : b17 = false := hk
          subst hk'
          clear hk
          obtain rfl : b19 = false := by cases b19 with | false => rfl | true => exact absurd (hM 19 17 rfl rfl) Bool.false_ne_true
          obtain rfl : b20 = false := by cases b20 with | false => rfl | true => exact absurd (hM 20 19 rfl rfl) Bool.false_ne_true
          obtain rfl : b21 = false := by cases b21 with | false => rfl | true => exact absurd (hM 21 20 rfl rfl) Bool.false_ne_true
          obtain rfl : b23 = false := by cases b23 with | false => rfl | true => exact absurd (hM 23 21 rfl rfl) Bool.false_ne_true
          obtain rfl : b24 = false := by cases b24 with | false => rfl | true => exact absurd (hM 24 23 rfl rfl) Bool.false_ne_true
          obtain rfl : b25 = false := by cases b25 with | false => rfl | true => exact absurd (hM 25 24 rfl rfl) Bool.false_ne_true
          obtain rfl : b26 = false := by cases b26 with | false => rfl | true => exact absurd (hM 26 25 rfl rfl) Bool.false_ne_true
          obtain rfl : b28 = false := by cases b28 with | false => rfl | true => exact absurd (hM 28 26 rfl rfl) Bool.false_ne_true
          obtain rfl : b16 = true := haft ⟨16, .data⟩ (by simp) rfl
          clear haft
          obtain rfl := G rfl
          go_simp
          exact hK _ _ ⟨b0, b1, b2, b3, b4, b5, b6, b7, b8, b9, b10, b11, b12, b13, b14, b15, true, true, b18, false, false, false, b22, false, false, false, false, b27, false, _, _, rfl, rfl, Lib.hid ⟨fun _ => rfl, nofun, nofun, nofun⟩⟩
        refine StepsU.cons ?_ ?_
        · intro Q E0 listed a w' hI hM hk haft K hK
          obtain ⟨b0, b1, b2, b3, b4, b5, b6, b7, b8, b9, b10, b11, b12, b13, b14, b15, b16, b17, b18, b19, b20, b21, b22, b23, b24, b25, b26, b27, b28, x46, x47, hl, ha, HF⟩ := hI
          subst hl; subst ha
          obtain ⟨G, G25, G26, G28⟩ := HF.out
          clear HF
          have hk' : b18 = false := hk
          subst hk'
          clear hk
          obtain rfl : b19 = false := by cases b19 with | false => rfl | true => exact absurd (hM 19 18 rfl rfl) Bool.false_ne_true
          obtain rfl : b20 = false := by cases b20 with | false => rfl | true => exact absurd (hM 20 19 rfl rfl) Bool.false_ne_true
          obtain rfl : b21 = false := by cases b21 with | false => rfl | true => exact absurd (hM 21 20 rfl rfl) Bool.false_ne_true
          obtain rfl : b23 = false := by cases b23 with | false => rfl | true => exact absurd (hM 23 21 rfl rfl) Bool.false_ne_true
          obtain rfl : b24 = false := by cases b24 with | false => rfl | true => exact absurd (hM 24 23 rfl rfl) Bool.false_ne_true
          obtain rfl : b25 = false := by cases b25 with | false => rfl | true => exact absurd (hM 25 24 rfl rfl) Bool.false_ne_true
          obtain rfl : b26 = false := by cases b26 with | false => rfl | true => exact absurd (hM 26 25 rfl rfl) Bool.false_ne_true
          obtain rfl : b28 = false := by cases b28 with | false => rfl | true => exact absurd (hM 28 26 rfl rfl) Bool.false_ne_true
          clear haft
          obtain rfl := G rfl
          go_simp
          exact hK _ _ ⟨b0, b1, b2, b3, b4, b5, b6, b7, b8, b9, b10, b11, b12, b13, b14, b15, b16, b17, true, false, false, false, b22, false, false, false, false, b27, false, _, _, rfl, rfl, Lib.hid ⟨fun _ => rfl, nofun, nofun, nofun⟩⟩
        refine StepsU.cons ?_ ?_
        · intro Q E0 listed a w' hI hM hk haft K hK
          obtain ⟨b0, b1, b2, b3, b4, b5, b6, b7, b8, b9, b10, b11, b12, b13, b14, b15, b16, b17, b18, b19, b20, b21, b22, b23, b24, b25, b26, b27, b28, x46, x47, hl, ha, HF⟩ := hI
          subst hl; subst ha
          obtain ⟨G, G25, G26, G28⟩ := HF.out
          clear HF
          have hk' : b19 = false := hk
          subst hk'
          clear hk
          obtain rfl : b20 = false := by cases b20 with | false => rfl | true => exact absurd (hM 20 19 rfl rfl) Bool.false_ne_true
          obtain rfl : b21 = false := by cases b21 with | false => rfl | true => exact absurd (hM 21 20 rfl rfl) Bool.false_ne_true
          obtain rfl : b23 = false := by cases b23 with | false => rfl | true => exact absurd (hM 23 21 rfl rfl) Bool.false_ne_true
          obtain rfl : b24 = false := by cases b24 with | false => rfl | true => exact absurd (hM 24 23 rfl rfl) Bool.false_ne_true
          obtain rfl : b25 = false := by cases b25 with | false => rfl | true => exact absurd (hM 25 24 rfl rfl) Bool.false_ne_true
          obtain rfl : b26 = false := by cases b26 with | false => rfl | true => exact absurd (hM 26 25 rfl rfl) Bool.false_ne_true
          obtain rfl : b28 = false := by cases b28 with | false => rfl | true => exact absurd (hM 28 26 rfl rfl) Bool.false_ne_true
          obtain rfl : b17 = true := haft ⟨17, .data⟩ (by simp) rfl
          obtain rfl : b18 = true := haft ⟨18, .data⟩ (by simp) rfl
          obtain rfl : b16 = true := hM 17 16 rfl rfl
          clear haft
          obtain rfl := G rfl
          go_simp
          exact hK _ _ ⟨b0, b1, b2, b3, b4, b5, b6, b7, b8, b9, b10, b11, b12, b13, b14, b15, true, true, true, true, false, false, b22, false, false, false, false, b27, false, _, _, rfl, rfl, Lib.hid ⟨fun _ => rfl, nofun, nofun, nofun⟩⟩
        refine StepsU.cons ?_ ?_
        · intro Q E0 listed a w' hI hM hk haft K hK
          obtain ⟨b0, b1, b2, b3, b4, b5, b6, b7, b8, b9, b10, b11, b12, b13, b14, b15, b16, b17, b18, b19, b20, b21, b22, b23, b24, b25, b26, b27, b28, x46, x47, hl, ha, HF⟩ := hI
          subst hl; subst ha
          obtain ⟨G, G25, G26, G28⟩ := HF.out
          clear HF
          have hk' : b20 = false := hk
          subst hk'
          clear hk
          obtain rfl : b21 = false := by cases b21 with | false => rfl | true => exact absurd (hM 21 20 rfl rfl) Bool.false_ne_true
          obtain rfl : b23 = false := by cases b23 with | false => rfl | true => exact absurd (hM 23 21 rfl rfl) Bool.false_ne_true
          obtain rfl : b24 = false := by cases b24 with | false => rfl | true => exact absurd (hM 24 23 rfl rfl) Bool.false_ne_true
          obtain rfl : b25 = false := by cases b25 with | false => rfl | true => exact absurd (hM 25 24 rfl rfl) Bool.false_ne_true
          obtain rfl : b26 = false := by cases b26 with | false => rfl | true => exact absurd (hM 26 25 rfl rfl) Bool.false_ne_true
          obtain rfl : b28 = false := by cases b28 with | false => rfl | true => exact absurd (hM 28 26 rfl rfl) Bool.false_ne_true
          obtain rfl : b19 = true := haft ⟨19, .data⟩ (by simp) rfl
          obtain rfl : b17 = true := hM 19 17 rfl rfl
          obtain rfl : b18 = true := hM 19 18 rfl rfl
          obtain rfl : b16 = true := hM 17 16 rfl rfl
          clear haft
          obtain rfl := G rfl
          go_simp
          exact hK _ _ ⟨b0, b1, b2, b3, b4, b5, b6, b7, b8, b9, b10, b11, b12, b13, b14, b15, true, true, true, true, true, false, b22, false, false, false, false, b27, false, _, _, rfl, rfl, Lib.hid ⟨fun _ => rfl, nofun, nofun, nofun⟩⟩
        refine StepsU.cons ?_ ?_
        · intro Q E0 listed a w' hI hM hk haft K hK
          obtain ⟨b0, b1, b2, b3, b4, b5, b6, b7, b8, b9, b10, b11, b12, b13, b14, b15, b16, b17, b18, b19, b20, b21, b22, b23, b24, b25, b26, b27, b28, x46, x47, hl, ha, HF⟩ := hI
          subst hl; subst ha
          obtain ⟨G, G25, G26, G28⟩ := HF.out
          clear HF
          have hk' : b21 = false := hk
          subst hk'
          clear hk
          obtain rfl : b23 = false := by cases b23 with | false => rfl | true => exact absurd (hM 23 21 rfl rfl) Bool.false_ne_true
          obtain rfl : b24 = false := by cases b24 with | false => rfl | true => exact absurd (hM 24 23 rfl rfl) Bool.false_ne_true
          obtain rfl : b25 = false := by cases b25 with | false => rfl | true => exact absurd (hM 25 24 rfl rfl) Bool.false_ne_true
          obtain rfl : b26 = false := by cases b26 with | false => rfl | true => exact absurd (hM 26 25 rfl rfl) Bool.false_ne_true
          obtain rfl : b28 = false := by cases b28 with | false => rfl | true => exact absurd (hM 28 26 rfl rfl) Bool.false_ne_true
          obtain rfl : b20 = true := haft ⟨20, .data⟩ (by simp) rfl
          obtain rfl : b19 = true := hM 20 19 rfl rfl
          obtain rfl : b17 = true := hM 19 17 rfl rfl
          obtain rfl : b18 = true := hM 19 18 rfl rfl
          obtain rfl : b16 = true := hM 17 16 rfl rfl
          clear haft
          obtain rfl := G rfl
          go_simp
          exact hK _ _ ⟨b0, b1, b2, b3, b4, b5, b6, b7, b8, b9, b10, b11, b12, b13, b14, b15, true, true, true, true, true, true, b22, false, false, false, false, b27, false, _, _, rfl, rfl, Lib.hid ⟨fun _ => rfl, nofun, nofun, nofun⟩⟩
        refine StepsU.cons ?_ ?_
        · intro Q E0 listed a w' hI hM hk haft K hK
          obtain ⟨b0, b1, b2, b3, b4, b5, b6, b7, b8, b9, b10, b11, b12, b13, b14, b15, b16, b17, b18, b19, b20, b21, b22, b23, b24, b25, b26, b27, b28, x46, x47, hl, ha, HF⟩ := hI
          subst hl; subst ha
          obtain ⟨G, G25, G26, G28⟩ := HF.out
          clear HF
          have hk' : b22 = false := hk
          subst hk'
          clear hk
          obtain rfl : b23 = false := by cases b23 with | false => rfl | true => exact absurd (hM 23 22 rfl rfl) Bool.false_ne_true
          obtain rfl : b24 = false := by cases b24 with | false => rfl | true => exact absurd (hM 24 23 rfl rfl) Bool.false_ne_true
          obtain rfl : b25 = false := by cases b25 with | false => rfl | true => exact absurd (hM 25 24 rfl rfl) Bool.false_ne_true
          obtain rfl : b26 = false := by cases b26 with | false => rfl | true => exact absurd (hM 26 25 rfl rfl) Bool.false_ne_true
          obtain rfl : b28 = false := by cases b28 with | false => rfl | true => exact absurd (hM 28 26 rfl rfl) Bool.false_ne_true
          clear haft
          obtain rfl := G rfl
          go_simp
          exact hK _ _ ⟨b0, b1, b2, b3, b4, b5, b6, b7, b8, b9, b10, b11, b12, b13, b14, b15, b16, b17, b18, b19, b20, b21, true, false, false, false, false, b27, false, _, _, rfl, rfl, Lib.hid ⟨fun _ => rfl, nofun, nofun, nofun⟩⟩
        refine StepsU.cons ?_ ?_
        · intro Q E0 listed a w' hI hM hk haft K hK
          obtain ⟨b0, b1, b2, b3, b4, b5, b6, b7, b8, b9, b10, b11, b12, b13, b14, b15, b16, b17, b18, b19, b20, b21, b22, b23, b24, b25, b26, b27, b28, x46, x47, hl, ha, HF⟩ := hI
          subst hl; subst ha
          obtain ⟨G, G25, G26, G28⟩ := HF.out
          clear HF
          have hk' : b23 = false := hk
          subst hk'
          clear hk
          obtain rfl : b24 = false := by cases b24 with | false => rfl | true => exact absurd (hM 24 23 rfl rfl) Bool.false_ne_true
          obtain rfl : b25 = false := by cases b25 with | false => rfl | true => exact absurd (hM 25 24 rfl rfl) Bool.false_ne_true
          obtain rfl : b26 = false := by cases b26 with | false => rfl | true => exact absurd (hM 26 25 rfl rfl) Bool.false_ne_true
          obtain rfl : b28 = false := by cases b28 with | false => rfl | true => exact absurd (hM 28 26 rfl rfl) Bool.false_ne_true
          obtain rfl : b21 = true := haft ⟨21, .data⟩ (by simp) rfl
          obtain rfl : b22 = true := haft ⟨22, .data⟩ (by simp) rfl
          obtain rfl : b20 = true := hM 21 20 rfl rfl
          obtain rfl : b19 = true := hM 20 19 rfl rfl
          obtain rfl : b17 = true := hM 19 17 rfl rfl
          obtain rfl : b18 = true := hM 19 18 rfl rfl
          obtain rfl : b16 = true := hM 17 16 rfl rfl
          clear haft
          obtain rfl := G rfl
          go_simp
          exact hK _ _ ⟨b0, b1, b2, b3, b4, b5, b6, b7, b8, b9, b10, b11, b12, b13, b14, b15, true, true, true, true, true, true, true, true, false, false, false, b27, false, _, _, rfl, rfl, Lib.hid ⟨fun _ => rfl, nofun, nofun, nofun⟩⟩
        refine StepsU.cons ?_ ?_
        · intro Q E0 listed a w' hI hM hk haft K hK
          obtain ⟨b0, b1, b2, b3, b4, b5, b6, b7, b8, b9, b10, b11, b12, b13, b14, b15, b16, b17, b18, b19, b20, b21, b22, b23, b24, b25, b26, b27, b28, x46, x47, hl, ha, HF⟩ := hI
          subst hl; subst ha
          obtain ⟨G, G25, G26, G28⟩ := HF.out
          clear HF
          have hk' : b24 = false := hk
          subst hk'
          clear hk
          obtain rfl : b25 = false := by cases b25 with | false => rfl | true => exact absurd (hM 25 24 rfl rfl) Bool.false_ne_true
          obtain rfl : b26 = false := by cases b26 with | false => rfl | true => exact absurd (hM 26 25 rfl rfl) Bool.false_ne_true
          obtain rfl : b28 = false := by cases b28 with | false => rfl | true => exact absurd (hM 28 26 rfl rfl) Bool.false_ne_true
          obtain rfl : b9 = true := haft ⟨9, .data⟩ (by simp) rfl
          obtain rfl : b15 = true := haft ⟨15, .data⟩ (by simp) rfl
          obtain rfl : b23 = true := haft ⟨23, .data⟩ (by simp) rfl
          obtain rfl : b7 = true := hM 9 7 rfl rfl
          obtain rfl : b8 = true := hM 9 8 rfl rfl
          obtain rfl : b14 = true := hM 15 14 rfl rfl
          obtain rfl : b21 = true := hM 23 21 rfl rfl
          obtain rfl : b22 = true := hM 23 22 rfl rfl
          obtain rfl : b6 = true := hM 7 6 rfl rfl
          obtain rfl : b13 = true := hM 14 13 rfl rfl
          obtain rfl : b20 = true := hM 21 20 rfl rfl
          obtain rfl : b5 = true := hM 6 5 rfl rfl
          obtain rfl : b11 = true := hM 13 11 rfl rfl
          obtain rfl : b12 = true := hM 13 12 rfl rfl
          obtain rfl : b19 = true := hM 20 19 rfl rfl
          obtain rfl : b3 = true := hM 5 3 rfl rfl
          obtain rfl : b4 = true := hM 5 4 rfl rfl
          obtain rfl : b10 = true := hM 11 10 rfl rfl
          obtain rfl : b17 = true := hM 19 17 rfl rfl
          obtain rfl : b18 = true := hM 19 18 rfl rfl
          obtain rfl : b2 = true := hM 3 2 rfl rfl
          obtain rfl : b16 = true := hM 17 16 rfl rfl
          clear haft
          obtain rfl := G rfl
          go_simp
          exact hK _ _ ⟨b0, b1, true, true, true, true, true, true, true, true, true, true, true, true, true, true, true, true, true, true, true, true, true, true, true, false, false, b27, false, _, _, rfl, rfl, Lib.hid ⟨fun _ => rfl, nofun, nofun, nofun⟩⟩
        refine StepsU.cons ?_ ?_
        · intro Q E0 listed a w' hI hM hk haft K hK
          obtain ⟨b0, b1, b2, b3, b4, b5, b6, b7, b8, b9, b10, b11, b12, b13, b14, b15, b16, b17, b18, b19, b20, b21, b22, b23, b24, b25, b26, b27, b28, x46, x47, hl, ha, HF⟩ := hI
          subst hl; subst ha
          obtain ⟨G, G25, G26, G28⟩ := HF.out
          clear HF
          have hk' : b25 = false := hk
          subst hk'
          clear hk
          obtain rfl : b26 = false := by cases b26 with | false => rfl | true => exact absurd (hM 26 25 rfl rfl) Bool.false_ne_true
          obtain rfl : b28 = false := by cases b28 with | false => rfl | true => exact absurd (hM 28 26 rfl rfl) Bool.false_ne_true
          obtain rfl : b24 = true := haft ⟨24, .data⟩ (by simp) rfl
          obtain rfl : b9 = true := hM 24 9 rfl rfl
          obtain rfl : b15 = true := hM 24 15 rfl rfl
          obtain rfl : b23 = true := hM 24 23 rfl rfl
          obtain rfl : b7 = true := hM 9 7 rfl rfl
          obtain rfl : b8 = true := hM 9 8 rfl rfl
          obtain rfl : b14 = true := hM 15 14 rfl rfl
          obtain rfl : b21 = true := hM 23 21 rfl rfl
          obtain rfl : b22 = true := hM 23 22 rfl rfl
          obtain rfl : b6 = true := hM 7 6 rfl rfl
          obtain rfl : b13 = true := hM 14 13 rfl rfl
          obtain rfl : b20 = true := hM 21 20 rfl rfl
          obtain rfl : b5 = true := hM 6 5 rfl rfl
          obtain rfl : b11 = true := hM 13 11 rfl rfl
          obtain rfl : b12 = true := hM 13 12 rfl rfl
          obtain rfl : b19 = true := hM 20 19 rfl rfl
          obtain rfl : b3 = true := hM 5 3 rfl rfl
          obtain rfl : b4 = true := hM 5 4 rfl rfl
          obtain rfl : b10 = true := hM 11 10 rfl rfl
          obtain rfl : b17 = true := hM 19 17 rfl rfl
          obtain rfl : b18 = true := hM 19 18 rfl rfl
          obtain rfl : b2 = true := hM 3 2 rfl rfl
          obtain rfl : b16 = true := hM 17 16 rfl rfl
          clear haft
          obtain rfl := G rfl
          go_simp
          exact hK _ _ ⟨b0, b1, true, true, true, true, true, true, true, true, true, true, true, true, true, true, true, true, true, true, true, true, true, true, true, true, false, b27, false, _, _, rfl, rfl, Lib.hid ⟨nofun, fun _ _ => ⟨rfl, rfl⟩, nofun, nofun⟩⟩
        refine StepsU.cons ?_ ?_
        · intro Q E0 listed a w' hI hM hk haft K hK
          obtain ⟨b0, b1, b2, b3, b4, b5, b6, b7, b8, b9, b10, b11, b12, b13, b14, b15, b16, b17, b18, b19, b20, b21, b22, b23, b24, b25, b26, b27, b28, x46, x47, hl, ha, HF⟩ := hI
          subst hl; subst ha
          obtain ⟨G, G25, G26, G28⟩ := HF.out
          clear HF
          have hk' : b26 = false := hk
          subst hk'
          clear hk
          obtain rfl : b28 = false := by cases b28 with | false => rfl | true => exact absurd (hM 28 26 rfl rfl) Bool.false_ne_true
          obtain rfl : b1 = true := haft ⟨1, .data⟩ (by simp) rfl
          obtain rfl : b25 = true := haft ⟨25, .data⟩ (by simp) rfl
          obtain rfl : b0 = true := hM 1 0 rfl rfl
          obtain rfl : b24 = true := hM 25 24 rfl rfl
          obtain rfl : b9 = true := hM 24 9 rfl rfl
          obtain rfl : b15 = true := hM 24 15 rfl rfl
          obtain rfl : b23 = true := hM 24 23 rfl rfl
          obtain rfl : b7 = true := hM 9 7 rfl rfl
          obtain rfl : b8 = true := hM 9 8 rfl rfl
          obtain rfl : b14 = true := hM 15 14 rfl rfl
          obtain rfl : b21 = true := hM 23 21 rfl rfl
          obtain rfl : b22 = true := hM 23 22 rfl rfl
          obtain rfl : b6 = true := hM 7 6 rfl rfl
          obtain rfl : b13 = true := hM 14 13 rfl rfl
          obtain rfl : b20 = true := hM 21 20 rfl rfl
          obtain rfl : b5 = true := hM 6 5 rfl rfl
          obtain rfl : b11 = true := hM 13 11 rfl rfl
          obtain rfl : b12 = true := hM 13 12 rfl rfl
          obtain rfl : b19 = true := hM 20 19 rfl rfl
          obtain rfl : b3 = true := hM 5 3 rfl rfl
          obtain rfl : b4 = true := hM 5 4 rfl rfl
          obtain rfl : b10 = true := hM 11 10 rfl rfl
          obtain rfl : b17 = true := hM 19 17 rfl rfl
          obtain rfl : b18 = true := hM 19 18 rfl rfl
          obtain rfl : b2 = true := hM 3 2 rfl rfl
          obtain rfl : b16 = true := hM 17 16 rfl rfl
          clear haft
          have hG := G25 rfl rfl
          obtain ⟨rfl, rfl⟩ := hG
          refine stepAppAt elMove (by decide) rfl (.tmp 22) (.tmp 46) rfl w.heap.size _ _ _ [.int .i64 (x + n), .int .i64 y, .int .i64 (z + n)] _ wr.heap.size rfl rfl (HXD.out.mv.alloc _) (by exact blkNew _ _ rfl) rfl (by simp [Value.oneCell']) (by have := hml.out; have := Hnm.out; omega) (by have h1 : w.heap.size ≤ wr.heap.size := HXD.out.sz; simp; omega) ?_
          intro g7 cap7 w7 ho7 hg7 hat7
          have hg8 : wr.drew.grownBy w7 (Value.slice am nm cm).ownBlock := grownTrans (grownBel ((Below.refl _ _).alloc (Nat.le_refl _) _)) hg7
          have ho8 : Own3 w7 w.heap.size 40 (.slice (some ⟨g7, 0, none⟩) (ms.length + 1) cap7) (ms ++ [((x + n), y, (z + n))]) := by unfold Own3; rw [List.length_append, cells3_app]; exact ho7.out
          exact hK _ _ ⟨true, true, true, true, true, true, true, true, true, true, true, true, true, true, true, true, true, true, true, true, true, true, true, true, true, true, true, b27, false, _, _, rfl, rfl, Lib.hid ⟨nofun, fun _ => nofun, fun _ _ => ⟨g7, cap7, rfl, ho8, hg8⟩, nofun⟩⟩
        refine StepsU.cons ?_ ?_
        · intro Q E0 listed a w' hI hM hk haft K hK
          obtain ⟨b0, b1, b2, b3, b4, b5, b6, b7, b8, b9, b10, b11, b12, b13, b14, b15, b16, b17, b18, b19, b20, b21, b22, b23, b24, b25, b26, b27, b28, x46, x47, hl, ha, HF⟩ := hI
          subst hl; subst ha
          obtain ⟨G, G25, G26, G28⟩ := HF.out
          clear HF
          have hk' : b27 = false := hk
          subst hk'
          clear hk
          obtain rfl : b28 = false := by cases b28 with | false => rfl | true => exact absurd (hM 28 27 rfl rfl) Bool.false_ne_true
          clear haft
          go_simp
          exact hK _ _ ⟨b0, b1, b2, b3, b4, b5, b6, b7, b8, b9, b10, b11, b12, b13, b14, b15, b16, b17, b18, b19, b20, b21, b22, b23, b24, b25, b26, true, false, _, _, rfl, rfl, Lib.hid ⟨G, G25, G26, nofun⟩⟩
        refine StepsU.cons ?_ ?_
        · intro Q E0 listed a w' hI hM hk haft K hK
          obtain ⟨b0, b1, b2, b3, b4, b5, b6, b7, b8, b9, b10, b11, b12, b13, b14, b15, b16, b17, b18, b19, b20, b21, b22, b23, b24, b25, b26, b27, b28, x46, x47, hl, ha, HF⟩ := hI
          subst hl; subst ha
          obtain ⟨G, G25, G26, G28⟩ := HF.out
          clear HF
          have hk' : b28 = false := hk
          subst hk'
          clear hk
          obtain rfl : b26 = true := haft ⟨26, .data⟩ (by simp) rfl
          obtain rfl : b27 = true := haft ⟨27, .data⟩ (by simp) rfl
          obtain rfl : b1 = true := hM 26 1 rfl rfl
          obtain rfl : b25 = true := hM 26 25 rfl rfl
          obtain rfl : b0 = true := hM 1 0 rfl rfl
          obtain rfl : b24 = true := hM 25 24 rfl rfl
          obtain rfl : b9 = true := hM 24 9 rfl rfl
          obtain rfl : b15 = true := hM 24 15 rfl rfl
          obtain rfl : b23 = true := hM 24 23 rfl rfl
          obtain rfl : b7 = true := hM 9 7 rfl rfl
          obtain rfl : b8 = true := hM 9 8 rfl rfl
          obtain rfl : b14 = true := hM 15 14 rfl rfl
          obtain rfl : b21 = true := hM 23 21 rfl rfl
          obtain rfl : b22 = true := hM 23 22 rfl rfl
          obtain rfl : b6 = true := hM 7 6 rfl rfl
          obtain rfl : b13 = true := hM 14 13 rfl rfl
          obtain rfl : b20 = true := hM 21 20 rfl rfl
          obtain rfl : b5 = true := hM 6 5 rfl rfl
          obtain rfl : b11 = true := hM 13 11 rfl rfl
          obtain rfl : b12 = true := hM 13 12 rfl rfl
          obtain rfl : b19 = true := hM 20 19 rfl rfl
          obtain rfl : b3 = true := hM 5 3 rfl rfl
          obtain rfl : b4 = true := hM 5 4 rfl rfl
          obtain rfl : b10 = true := hM 11 10 rfl rfl
          obtain rfl : b17 = true := hM 19 17 rfl rfl
          obtain rfl : b18 = true := hM 19 18 rfl rfl
          obtain rfl : b2 = true := hM 3 2 rfl rfl
          obtain rfl : b16 = true := hM 17 16 rfl rfl
          clear haft
          have hG := G26 rfl rfl
          obtain ⟨g7, cap7, rfl, ho8, hg8⟩ := hG
          have HX7 := HXD.out.addM hg8 ho8
          have b4' := HXD.out.hdM hg8
          obtain ⟨_, e1', _, _⟩ := blk4 b4'
          have f1' := blkFz b4' 1
          have h07 := blkGrow hg8 h02.out (fun e => ownNe HXD.out.mv h02.out (by decide) e.symm)
          have h17 := blkGrow hg8 h12.out (fun e => ownNe HXD.out.mv h12.out (by decide) e.symm)
          go_simp
          exact hK _ _ ⟨true, true, true, true, true, true, true, true, true, true, true, true, true, true, true, true, true, true, true, true, true, true, true, true, true, true, true, true, true, _, _, rfl, rfl, Lib.hid ⟨nofun, fun _ => nofun, fun _ => nofun, fun _ => ⟨_, HX7, blkSet h07 (by have := Hgw.out; omega), blkSet h17 (by have := Hgw.out; omega)⟩⟩⟩
        exact StepsU.nil
      · intro G0 hG0 listed a w' hI hall
        obtain ⟨b0, b1, b2, b3, b4, b5, b6, b7, b8, b9, b10, b11, b12, b13, b14, b15, b16, b17, b18, b19, b20, b21, b22, b23, b24, b25, b26, b27, b28, x46, x47, hl, ha, HF⟩ := hI
        subst hl; subst ha
        obtain rfl : b0 = true := hall 0 (by decide)
        obtain rfl : b1 = true := hall 1 (by decide)
        obtain rfl : b2 = true := hall 2 (by decide)
        obtain rfl : b3 = true := hall 3 (by decide)
        obtain rfl : b4 = true := hall 4 (by decide)
        obtain rfl : b5 = true := hall 5 (by decide)
        obtain rfl : b6 = true := hall 6 (by decide)
        obtain rfl : b7 = true := hall 7 (by decide)
        obtain rfl : b8 = true := hall 8 (by decide)
        obtain rfl : b9 = true := hall 9 (by decide)
        obtain rfl : b10 = true := hall 10 (by decide)
        obtain rfl : b11 = true := hall 11 (by decide)
        obtain rfl : b12 = true := hall 12 (by decide)
        obtain rfl : b13 = true := hall 13 (by decide)
        obtain rfl : b14 = true := hall 14 (by decide)
        obtain rfl : b15 = true := hall 15 (by decide)
        obtain rfl : b16 = true := hall 16 (by decide)
        obtain rfl : b17 = true := hall 17 (by decide)
        obtain rfl : b18 = true := hall 18 (by decide)
        obtain rfl : b19 = true := hall 19 (by decide)
        obtain rfl : b20 = true := hall 20 (by decide)
        obtain rfl : b21 = true := hall 21 (by decide)
        obtain rfl : b22 = true := hall 22 (by decide)
        obtain rfl : b23 = true := hall 23 (by decide)
        obtain rfl : b24 = true := hall 24 (by decide)
        obtain rfl : b25 = true := hall 25 (by decide)
        obtain rfl : b26 = true := hall 26 (by decide)
        obtain rfl : b27 = true := hall 27 (by decide)
        obtain rfl : b28 = true := hall 28 (by decide)
        exact hG0 _ _ _ (HF.out.2.2.2 rfl)
      · intro x46 x47 w' hFin
        obtain ⟨vm', hS', hw0, hw1⟩ := hFin
        rw [Hvf.out, Hve.out] at hS'
        clear d1D d2D d3D c0D e1D m0D m1D m2D d1 e1 m0 m1 m2 c0 d2 d3 e0 e2 e3 HXD h02 h12
        go_wp2
        go_roundw
        case rel => exact ⟨k + 1, _, by omega, by go_num, by rw [Hms.out]; exact hS', hw0, hw1⟩
        case measure => simp [intOf]; omega
    · obtain rfl : k = D.moves.length := by omega
      rw [List.take_length] at hs
      obtain ⟨M1, hM1⟩ : ∃ M1, M1 = D.moves.map (sft n) := ⟨_, rfl⟩
      rw [← hM1] at hs
      have HE1 := Lib.hid hM1; clear hM1
      have HS := hs; have K0 := h0; have K1 := h1; clear hs h0 h1
      go_wp2_with fail
      clear c0 d1 d2 d3 hlt hk
      go_loopw [7] (fun i wr => ∃ (k : Nat) (vf : Value), k ≤ D.firsts.length ∧ i = .int .i64 k ∧ Hid (NSt w wr g w.heap.size (D.states + n) vm vf (.slice none 0 0) M1 ((D.firsts.take k).map (· + n)) []) ∧ Hid (wr.heap[w.heap.size]? = some (.cells #[.int .i64 D.states, .slice a1 D.moves.length c1, .slice a2 D.firsts.length c2, .slice a3 D.ends.length c3] 36 (0, 0))) ∧ Hid (wr.heap[w.heap.size + 1]? = some (.cells #[.int .i64 0, .slice none 0 0, .slice none 0 0, .slice none 0 0] 36 (0, 0)))) (fun i _ => D.firsts.length - (intOf i).toNat)
      case atStart => exact ⟨0, _, by omega, rfl, HS, K0, K1⟩
      case round =>
        obtain ⟨k, vf, hk, rfl, hs, h0, h1⟩ := hrel
        clear HS K0 K1
        obtain ⟨c0, d1, d2, d3⟩ := blk4 h0.out
        by_cases hlt : k < D.firsts.length
        · obtain ⟨b, off, rfl, m0⟩ := ((H0.out.2.1).stay (kpB hs.out.bel)).at hlt
          have Hst := Lib.hid (map_take_step (· + n) D.firsts hlt)
          have hr := HR.out.1 _ (List.getElem_mem hlt)
          obtain ⟨x, hx⟩ : ∃ x, x = D.firsts[k] := ⟨_, rfl⟩
          rw [← hx] at m0 Hst hr
          clear hx
          have hn := Hn.out
          have hw1 : IntKind.i64.wrap (x + n) = x + n := IntWalk.i64_in _ (by omega)
          obtain ⟨L, hL⟩ : ∃ L, L = (D.firsts.take k).map (· + n) := ⟨_, rfl⟩
          rw [← hL] at hs Hst
          have hml := Lib.hid (show L.length ≤ 1000000000 from by rw [hL, List.length_map, List.length_take]; have := HLN.out; omega)
          clear hL hr hn
          obtain ⟨am, cm, hvm, _⟩ := hs.out.fs.shape
          obtain ⟨nm, hnm⟩ : ∃ nm, nm = L.length := ⟨_, rfl⟩
          rw [← hnm] at hvm
          have Hnm := Lib.hid hnm; clear hnm
          subst hvm
          obtain ⟨e0, e1, e2, e3⟩ := blk4 hs.out.hd
          have HXD := Lib.hid (hs.out.stay (Below.refl _ _).drew)
          have h02 : Hid (wr.drew.heap[w.heap.size]? = _) := h0
          have h12 : Hid (wr.drew.heap[w.heap.size + 1]? = _) := h1
          have c0D : wr.drew.cell? ⟨w.heap.size, 0, none⟩ = _ := c0
          have d1D : wr.drew.cell? ⟨w.heap.size, 1, none⟩ = _ := d1
          have d2D : wr.drew.cell? ⟨w.heap.size, 2, none⟩ = _ := d2
          have d3D : wr.drew.cell? ⟨w.heap.size, 3, none⟩ = _ := d3
          have e1D : wr.drew.cell? ⟨g, 2, none⟩ = _ := e2
          have m0D : wr.drew.cell? ⟨b, off + k, none⟩ = _ := m0
          have hltI : (k : Int) < (D.firsts.length : Int) := by omega
          have hk0 : (0 : Int) ≤ (k : Int) := Int.natCast_nonneg _
          go_wp2_with fail
          refine wp_region_inv2 [(1, 0), (3, 2), (5, 3), (5, 4), (6, 5), (8, 6), (8, 7), (9, 8), (10, 1), (10, 9), (12, 10), (12, 11)] (fun listed a w' => ∃ (b0 b1 b2 b3 b4 b5 b6 b7 b8 b9 b10 b11 b12 : Bool) (x65 x66 : Value), listed = #[b0, b1, b2, b3, b4, b5, b6, b7, b8, b9, b10, b11, b12] ∧ a = { tmps := #[Value.agg #[Value.int IntKind.i64 D.states, Value.slice a1 D.moves.length c1, Value.slice (some { block := b, off := off }) D.firsts.length c2, Value.slice a3 D.ends.length c3], Value.int IntKind.i64 n, Value.pointer (some { block := w.heap.size, off := 0 }), undef, Value.pointer (some { block := w.heap.size + 1, off := 0 }), Value.pointer (some { block := g, off := 0 }), Value.int IntKind.i64 ↑D.moves.length, Value.int IntKind.i64 ↑k, undef, Value.pointer (some { block := w.heap.size, off := 0 }), Value.int IntKind.i64 D.states, Value.int IntKind.i64 n, Value.int IntKind.i64 (D.states + n), Value.agg #[Value.int IntKind.i64 (D.states + n), Value.slice none 0 0, Value.slice none 0 0, Value.slice none 0 0], Value.int IntKind.i64 ↑D.moves.length, Value.pointer (some { block := w.heap.size, off := 1 }), Value.slice a1 D.moves.length c1, Value.int IntKind.i64 ↑D.moves.length, Value.bool false, u19, u20, u21, u22, u23, u24, u25, u26, u27, u28, u29, u30, u31, u32, u33, u34, u35, u36, u37, u38, u39, u40, u41, u42, u43, u44, u45, u46, u47, u48, Value.int IntKind.i64 ↑k, Value.pointer (some { block := w.heap.size, off := 2 }), Value.slice (some { block := b, off := off }) D.firsts.length c2, Value.int IntKind.i64 ↑D.firsts.length, Value.bool true, u54, u55, cond b0 (.pointer (some ⟨g, 2, none⟩)) (u56), cond b1 (.slice am nm cm) (u57), cond b2 (.pointer (some ⟨w.heap.size, 2, none⟩)) (u58), cond b3 (.slice (some ⟨b, off, none⟩) D.firsts.length c2) (u59), cond b4 (.int .i64 k) (u60), cond b5 (.pointer (some ⟨b, off + k, none⟩)) (u61), cond b6 (.int .i64 x) (u62), cond b7 (.int .i64 n) (u63), cond b8 (.int .i64 (x + n)) (u64), x65, x66, cond b11 (.pointer (some ⟨g, 2, none⟩)) (u67), undef, undef, undef, undef, undef, undef, undef, undef, undef, undef, undef, undef, undef, undef, undef, undef, undef, undef, undef, undef], defers := [] } ∧ Hid ((b9 = false → w' = wr.drew) ∧ (b9 = true → b10 = false → (w' = (wr.drew.alloc (.cells #[.int .i64 (x + n)] 3)) ∧ x65 = .slice (some ⟨wr.heap.size, 0, none⟩) 1 1)) ∧ (b10 = true → b12 = false → (∃ (g7 : Nat) (cap7 : Nat), x66 = .slice (some ⟨g7, 0, none⟩) (L.length + 1) cap7 ∧ OwnI w' w.heap.size (.slice (some ⟨g7, 0, none⟩) (L.length + 1) cap7) (L ++ [x + n]) ∧ wr.drew.grownBy w' (Value.slice am nm cm).ownBlock)) ∧ (b12 = true → (∃ v', NSt w w' g w.heap.size (D.states + n) vm v' (.slice none 0 0) M1 (L ++ [x + n]) [] ∧ w'.heap[w.heap.size]? = some (.cells #[.int .i64 D.states, .slice a1 D.moves.length c1, .slice (some ⟨b, off, none⟩) D.firsts.length c2, .slice a3 D.ends.length c3] 36 (0, 0)) ∧ w'.heap[w.heap.size + 1]? = some (.cells #[.int .i64 0, .slice none 0 0, .slice none 0 0, .slice none 0 0] 36 (0, 0)))))) (fun G => ∀ (x65 x66 : Value) (w' : World), ((∃ v', NSt w w' g w.heap.size (D.states + n) vm v' (.slice none 0 0) M1 (L ++ [x + n]) [] ∧ w'.heap[w.heap.size]? = some (.cells #[.int .i64 D.states, .slice a1 D.moves.length c1, .slice (some ⟨b, off, none⟩) D.firsts.length c2, .slice a3 D.ends.length c3] 36 (0, 0)) ∧ w'.heap[w.heap.size + 1]? = some (.cells #[.int .i64 0, .slice none 0 0, .slice none 0 0, .slice none 0 0] 36 (0, 0)))) → G { tmps := #[Value.agg #[Value.int IntKind.i64 D.states, Value.slice a1 D.moves.length c1, Value.slice (some { block := b, off := off }) D.firsts.length c2, Value.slice a3 D.ends.length c3], Value.int IntKind.i64 n, Value.pointer (some { block := w.heap.size, off := 0 }), undef, Value.pointer (some { block := w.heap.size + 1, off := 0 }), Value.pointer (some { block := g, off := 0 }), Value.int IntKind.i64 ↑D.moves.length, Value.int IntKind.i64 ↑k, undef, Value.pointer (some { block := w.heap.size, off := 0 }), Value.int IntKind.i64 D.states, Value.int IntKind.i64 n, Value.int IntKind.i64 (D.states + n), Value.agg #[Value.int IntKind.i64 (D.states + n), Value.slice none 0 0, Value.slice none 0 0, Value.slice none 0 0], Value.int IntKind.i64 ↑D.moves.length, Value.pointer (some { block := w.heap.size, off := 1 }), Value.slice a1 D.moves.length c1, Value.int IntKind.i64 ↑D.moves.length, Value.bool false, u19, u20, u21, u22, u23, u24, u25, u26, u27, u28, u29, u30, u31, u32, u33, u34, u35, u36, u37, u38, u39, u40, u41, u42, u43, u44, u45, u46, u47, u48, Value.int IntKind.i64 ↑k, Value.pointer (some { block := w.heap.size, off := 2 }), Value.slice (some { block := b, off := off }) D.firsts.length c2, Value.int IntKind.i64 ↑D.firsts.length, Value.bool true, u54, u55, .pointer (some ⟨g, 2, none⟩), .slice am nm cm, .pointer (some ⟨w.heap.size, 2, none⟩), .slice (some ⟨b, off, none⟩) D.firsts.length c2, .int .i64 k, .pointer (some ⟨b, off + k, none⟩), .int .i64 x, .int .i64 n, .int .i64 (x + n), x65, x66, .pointer (some ⟨g, 2, none⟩), undef, undef, undef, undef, undef, undef, undef, undef, undef, undef, undef, undef, undef, undef, undef, undef, undef, undef, undef, undef], defers := [] } w') (by kernel_rfl) (by kernel_rfl) (by kernel_rfl) (by kernel_rfl) ?_ ?_ ?_ ?_
          · exact ⟨false, false, false, false, false, false, false, false, false, false, false, false, false, u65, u66, rfl, rfl, Lib.hid ⟨fun _ => rfl, nofun, nofun, nofun⟩⟩
          · refine StepsU.cons ?_ ?_
            · intro Q E0 listed a w' hI hM hk haft K hK
              obtain ⟨b0, b1, b2, b3, b4, b5, b6, b7, b8, b9, b10, b11, b12, x65, x66, hl, ha, HF⟩ := hI
              subst hl; subst ha
              obtain ⟨G, G9, G10, G12⟩ := HF.out
              clear HF
              have hk' : b0 = false := hk
              subst hk'
              clear hk
              obtain rfl : b1 = false := by cases b1 with | false => rfl | true => exact absurd (hM 1 0 rfl rfl) Bool.false_ne_true
              obtain rfl : b10 = false := by cases b10 with | false => rfl | true => exact absurd (hM 10 1 rfl rfl) Bool.false_ne_true
              obtain rfl : b12 = false := by cases b12 with | false => rfl | true => exact absurd (hM 12 10 rfl rfl) Bool.false_ne_true
              clear haft
              go_simp
              exact hK _ _ ⟨true, false, b2, b3, b4, b5, b6, b7, b8, b9, false, b11, false, _, _, rfl, rfl, Lib.hid ⟨G, G9, nofun, nofun⟩⟩
            refine StepsU.cons ?_ ?_
            · intro Q E0 listed a w' hI hM hk haft K hK
              obtain ⟨b0, b1, b2, b3, b4, b5, b6, b7, b8, b9, b10, b11, b12, x65, x66, hl, ha, HF⟩ := hI
              subst hl; subst ha
              obtain ⟨G, G9, G10, G12⟩ := HF.out
              clear HF
              have hk' : b1 = false := hk
              subst hk'
              clear hk
              obtain rfl : b10 = false := by cases b10 with | false => rfl | true => exact absurd (hM 10 1 rfl rfl) Bool.false_ne_true
              obtain rfl : b12 = false := by cases b12 with | false => rfl | true => exact absurd (hM 12 10 rfl rfl) Bool.false_ne_true
              obtain rfl : b0 = true := haft ⟨0, .data⟩ (by simp) rfl
              clear haft
              have e1W : w'.cell? ⟨g, 2, none⟩ = some (.slice am nm cm) := by cases b9 with | false => (rw [G rfl]; exact e1D) | true => (rw [(G9 rfl rfl).1]; exact kpAlloc (S := fun _ => True) _ _ trivial e1D)
              go_simp
              exact hK _ _ ⟨true, true, b2, b3, b4, b5, b6, b7, b8, b9, false, b11, false, _, _, rfl, rfl, Lib.hid ⟨G, G9, nofun, nofun⟩⟩
            refine StepsU.cons ?_ ?_
            · intro Q E0 listed a w' hI hM hk haft K hK
              obtain ⟨b0, b1, b2, b3, b4, b5, b6, b7, b8, b9, b10, b11, b12, x65, x66, hl, ha, HF⟩ := hI
              subst hl; subst ha
              obtain ⟨G, G9, G10, G12⟩ := HF.out
              clear HF
              have hk' : b2 = false := hk
              subst hk'
              clear hk
              obtain rfl : b3 = false := by cases b3 with | false => rfl | true => exact absurd (hM 3 2 rfl rfl) Bool.false_ne_true
              obtain rfl : b5 = false := by cases b5 with | false => rfl | true => exact absurd (hM 5 3 rfl rfl) Bool.false_ne_true
              obtain rfl : b6 = false := by cases b6 with | false => rfl | true => exact absurd (hM 6 5 rfl rfl) Bool.false_ne_true
              obtain rfl : b8 = false := by cases b8 with | false => rfl | true => exact absurd (hM 8 6 rfl rfl) Bool.false_ne_true
              obtain rfl : b9 = false := by cases b9 with | false => rfl | true => exact absurd (hM 9 8 rfl rfl) Bool.false_ne_true
              obtain rfl : b10 = false := by cases b10 with | false => rfl | true => exact absurd (hM 10 9 rfl rfl) Bool.false_ne_true
              obtain rfl : b12 = false := by cases b12 with | false => rfl | true => exact absurd (hM 12 10 rfl rfl) Bool.false_ne_true
              clear haft
              obtain rfl := G rfl
              go_simp
              exact hK _ _ ⟨b0, b1, true, false, b4, false, false, b7, false, false, false, b11, false, _, _, rfl, rfl, Lib.hid ⟨fun _ => rfl, nofun, nofun, nofun⟩⟩
            refine StepsU.cons ?_ ?_
            · intro Q E0 listed a w' hI hM hk haft K hK
              obtain ⟨b0, b1, b2, b3, b4, b5, b6, b7, b8, b9, b10, b11, b12, x65, x66, hl, ha, HF⟩ := hI
              subst hl; subst ha
              obtain ⟨G, G9, G10, G12⟩ := HF.out
              clear HF
              have hk' : b3 = false := hk
              subst hk'
              clear hk
              obtain rfl : b5 = false := by cases b5 with | false => rfl | true => exact absurd (hM 5 3 rfl rfl) Bool.false_ne_true
              obtain rfl : b6 = false := by cases b6 with | false => rfl | true => exact absurd (hM 6 5 rfl rfl) Bool.false_ne_true
              obtain rfl : b8 = false := by cases b8 with | false => rfl | true => exact absurd (hM 8 6 rfl rfl) Bool.false_ne_true
              obtain rfl : b9 = false := by cases b9 with | false => rfl | true => exact absurd (hM 9 8 rfl rfl) Bool.false_ne_true
              obtain rfl : b10 = false := by cases b10 with | false => rfl | true => exact absurd (hM 10 9 rfl rfl) Bool.false_ne_true
              obtain rfl : b12 = false := by cases b12 with | false => rfl | true => exact absurd (hM 12 10 rfl rfl) Bool.false_ne_true
              obtain rfl : b2 = true := haft ⟨2, .data⟩ (by simp) rfl
              clear haft
              obtain rfl := G rfl
              go_simp
              exact hK _ _ ⟨b0, b1, true, true, b4, false, false, b7, false, false, false, b11, false, _, _, rfl, rfl, Lib.hid ⟨fun _ => rfl, nofun, nofun, nofun⟩⟩
            refine StepsU.cons ?_ ?_
            · intro Q E0 listed a w' hI hM hk haft K hK
              obtain ⟨b0, b1, b2, b3, b4, b5, b6, b7, b8, b9, b10, b11, b12, x65, x66, hl, ha, HF⟩ := hI
              subst hl; subst ha
              obtain ⟨G, G9, G10, G12⟩ := HF.out
              clear HF
              have hk' : b4 = false := hk
              subst hk'
              clear hk
              obtain rfl : b5 = false := by cases b5 with | false => rfl | true => exact absurd (hM 5 4 rfl rfl) Bool.false_ne_true
              obtain rfl : b6 = false := by cases b6 with | false => rfl | true => exact absurd (hM 6 5 rfl rfl) Bool.false_ne_true
              obtain rfl : b8 = false := by cases b8 with | false => rfl | true => exact absurd (hM 8 6 rfl rfl) Bool.false_ne_true
              obtain rfl : b9 = false := by cases b9 with | false => rfl | true => exact absurd (hM 9 8 rfl rfl) Bool.false_ne_true
              obtain rfl : b10 = false := by cases b10 with | false => rfl | true => exact absurd (hM 10 9 rfl rfl) Bool.false_ne_true
              obtain rfl : b12 = false := by cases b12 with | false => rfl | true => exact absurd (hM 12 10 rfl rfl) Bool.false_ne_true
              clear haft
              obtain rfl := G rfl
              go_simp
              exact hK _ _ ⟨b0, b1, b2, b3, true, false, false, b7, false, false, false, b11, false, _, _, rfl, rfl, Lib.hid ⟨fun _ => rfl, nofun, nofun, nofun⟩⟩
            refine StepsU.cons ?_ ?_
            · intro Q E0 listed a w' hI hM hk haft K hK
              obtain ⟨b0, b1, b2, b3, b4, b5, b6, b7, b8, b9, b10, b11, b12, x65, x66, hl, ha, HF⟩ := hI
              subst hl; subst ha
              obtain ⟨G, G9, G10, G12⟩ := HF.out
              clear HF
              have hk' : b5 = false := hk
              subst hk'
              clear hk
              obtain rfl : b6 = false := by cases b6 with | false => rfl | true => exact absurd (hM 6 5 rfl rfl) Bool.false_ne_true
              obtain rfl : b8 = false := by cases b8 with | false => rfl | true => exact absurd (hM 8 6 rfl rfl) Bool.false_ne_true
              obtain rfl : b9 = false := by cases b9 with | false => rfl | true => exact absurd (hM 9 8 rfl rfl) Bool.false_ne_true
              obtain rfl : b10 = false := by cases b10 with | false => rfl | true => exact absurd (hM 10 9 rfl rfl) Bool.false_ne_true
              obtain rfl : b12 = false := by cases b12 with | false => rfl | true => exact absurd (hM 12 10 rfl rfl) Bool.false_ne_true
              obtain rfl : b3 = true := haft ⟨3, .data⟩ (by simp) rfl
              obtain rfl : b4 = true := haft ⟨4, .data⟩ (by simp) rfl
              obtain rfl : b2 = true := hM 3 2 rfl rfl
              clear haft
              obtain rfl := G rfl
              go_simp
              exact hK _ _ ⟨b0, b1, true, true, true, true, false, b7, false, false, false, b11, false, _, _, rfl, rfl, Lib.hid ⟨fun _ => rfl, nofun, nofun, nofun⟩⟩
            refine StepsU.cons ?_ ?_
            · intro Q E0 listed a w' hI hM hk haft K hK
              obtain ⟨b0, b1, b2, b3, b4, b5, b6, b7, b8, b9, b10, b11, b12, x65, x66, hl, ha, HF⟩ := hI
              subst hl; subst ha
              obtain ⟨G, G9, G10, G12⟩ := HF.out
              clear HF
              have hk' : b6 = false := hk
              subst hk'
              clear hk
              obtain rfl : b8 = false := by cases b8 with | false => rfl | true => exact absurd (hM 8 6 rfl rfl) Bool.false_ne_true
              obtain rfl : b9 = false := by cases b9 with | false => rfl | true => exact absurd (hM 9 8 rfl rfl) Bool.false_ne_true
              obtain rfl : b10 = false := by cases b10 with | false => rfl | true => exact absurd (hM 10 9 rfl rfl) Bool.false_ne_true
              obtain rfl : b12 = false := by cases b12 with | false => rfl | true => exact absurd (hM 12 10 rfl rfl) Bool.false_ne_true
              obtain rfl : b5 = true := haft ⟨5, .data⟩ (by simp) rfl
              obtain rfl : b3 = true := hM 5 3 rfl rfl
              obtain rfl : b4 = true := hM 5 4 rfl rfl
              obtain rfl : b2 = true := hM 3 2 rfl rfl
              clear haft
              obtain rfl := G rfl
              go_simp
              exact hK _ _ ⟨b0, b1, true, true, true, true, true, b7, false, false, false, b11, false, _, _, rfl, rfl, Lib.hid ⟨fun _ => rfl, nofun, nofun, nofun⟩⟩
            refine StepsU.cons ?_ ?_
            · intro Q E0 listed a w' hI hM hk haft K hK
              obtain ⟨b0, b1, b2, b3, b4, b5, b6, b7, b8, b9, b10, b11, b12, x65, x66, hl, ha, HF⟩ := hI
              subst hl; subst ha
              obtain ⟨G, G9, G10, G12⟩ := HF.out
              clear HF
              have hk' : b7 = false := hk
              subst hk'
              clear hk
              obtain rfl : b8 = false := by cases b8 with | false => rfl | true => exact absurd (hM 8 7 rfl rfl) Bool.false_ne_true
              obtain rfl : b9 = false := by cases b9 with | false => rfl | true => exact absurd (hM 9 8 rfl rfl) Bool.false_ne_true
              obtain rfl : b10 = false := by cases b10 with | false => rfl | true => exact absurd (hM 10 9 rfl rfl) Bool.false_ne_true
              obtain rfl : b12 = false := by cases b12 with | false => rfl | true => exact absurd (hM 12 10 rfl rfl) Bool.false_ne_true
              clear haft
              obtain rfl := G rfl
              go_simp
              exact hK _ _ ⟨b0, b1, b2, b3, b4, b5, b6, true, false, false, false, b11, false, _, _, rfl, rfl, Lib.hid ⟨fun _ => rfl, nofun, nofun, nofun⟩⟩
            refine StepsU.cons ?_ ?_
            · intro Q E0 listed a w' hI hM hk haft K hK
              obtain ⟨b0, b1, b2, b3, b4, b5, b6, b7, b8, b9, b10, b11, b12, x65, x66, hl, ha, HF⟩ := hI
              subst hl; subst ha
              obtain ⟨G, G9, G10, G12⟩ := HF.out
              clear HF
              have hk' : b8 = false := hk
              subst hk'
              clear hk
              obtain rfl : b9 = false := by cases b9 with | false => rfl | true => exact absurd (hM 9 8 rfl rfl) Bool.false_ne_true
              obtain rfl : b10 = false := by cases b10 with | false => rfl | true => exact absurd (hM 10 9 rfl rfl) Bool.false_ne_true
              obtain rfl : b12 = false := by cases b12 with | false => rfl | true => exact absurd (hM 12 10 rfl rfl) Bool.false_ne_true
              obtain rfl : b6 = true := haft ⟨6, .data⟩ (by simp) rfl
              obtain rfl : b7 = true := haft ⟨7, .data⟩ (by simp) rfl
              obtain rfl : b5 = true := hM 6 5 rfl rfl
              obtain rfl : b3 = true := hM 5 3 rfl rfl
              obtain rfl : b4 = true := hM 5 4 rfl rfl
              obtain rfl : b2 = true := hM 3 2 rfl rfl
              clear haft
              obtain rfl := G rfl
              go_simp
              exact hK _ _ ⟨b0, b1, true, true, true, true, true, true, true, false, false, b11, false, _, _, rfl, rfl, Lib.hid ⟨fun _ => rfl, nofun, nofun, nofun⟩⟩
            refine StepsU.cons ?_ ?_
            · intro Q E0 listed a w' hI hM hk haft K hK
              obtain ⟨b0, b1, b2, b3, b4, b5, b6, b7, b8, b9, b10, b11, b12, x65, x66, hl, ha, HF⟩ := hI
              subst hl; subst ha
              obtain ⟨G, G9, G10, G12⟩ := HF.out
              clear HF
              have hk' : b9 = false := hk
              subst hk'
              clear hk
              obtain rfl : b10 = false := by cases b10 with | false => rfl | true => exact absurd (hM 10 9 rfl rfl) Bool.false_ne_true
              obtain rfl : b12 = false := by cases b12 with | false => rfl | true => exact absurd (hM 12 10 rfl rfl) Bool.false_ne_true
              obtain rfl : b8 = true := haft ⟨8, .data⟩ (by simp) rfl
              obtain rfl : b6 = true := hM 8 6 rfl rfl
              obtain rfl : b7 = true := hM 8 7 rfl rfl
              obtain rfl : b5 = true := hM 6 5 rfl rfl
              obtain rfl : b3 = true := hM 5 3 rfl rfl
              obtain rfl : b4 = true := hM 5 4 rfl rfl
              obtain rfl : b2 = true := hM 3 2 rfl rfl
              clear haft
              obtain rfl := G rfl
              go_simp
              exact hK _ _ ⟨b0, b1, true, true, true, true, true, true, true, true, false, b11, false, _, _, rfl, rfl, Lib.hid ⟨nofun, fun _ _ => ⟨rfl, rfl⟩, nofun, nofun⟩⟩
            refine StepsU.cons ?_ ?_
            · intro Q E0 listed a w' hI hM hk haft K hK
              obtain ⟨b0, b1, b2, b3, b4, b5, b6, b7, b8, b9, b10, b11, b12, x65, x66, hl, ha, HF⟩ := hI
              subst hl; subst ha
              obtain ⟨G, G9, G10, G12⟩ := HF.out
              clear HF
              have hk' : b10 = false := hk
              subst hk'
              clear hk
              obtain rfl : b12 = false := by cases b12 with | false => rfl | true => exact absurd (hM 12 10 rfl rfl) Bool.false_ne_true
              obtain rfl : b1 = true := haft ⟨1, .data⟩ (by simp) rfl
              obtain rfl : b9 = true := haft ⟨9, .data⟩ (by simp) rfl
              obtain rfl : b0 = true := hM 1 0 rfl rfl
              obtain rfl : b8 = true := hM 9 8 rfl rfl
              obtain rfl : b6 = true := hM 8 6 rfl rfl
              obtain rfl : b7 = true := hM 8 7 rfl rfl
              obtain rfl : b5 = true := hM 6 5 rfl rfl
              obtain rfl : b3 = true := hM 5 3 rfl rfl
              obtain rfl : b4 = true := hM 5 4 rfl rfl
              obtain rfl : b2 = true := hM 3 2 rfl rfl
              clear haft
              have hG := G9 rfl rfl
              obtain ⟨rfl, rfl⟩ := hG
              refine stepAppAt elInt (by decide) rfl (.tmp 57) (.tmp 65) rfl w.heap.size _ _ _ [.int .i64 (x + n)] _ wr.heap.size rfl rfl (HXD.out.fs.alloc _) (by exact blkNew _ _ rfl) rfl (by simp [Value.oneCell']) (by have := hml.out; have := Hnm.out; omega) (by have h1 : w.heap.size ≤ wr.heap.size := HXD.out.sz; simp; omega) ?_
              intro g7 cap7 w7 ho7 hg7 hat7
              have hg8 : wr.drew.grownBy w7 (Value.slice am nm cm).ownBlock := grownTrans (grownBel ((Below.refl _ _).alloc (Nat.le_refl _) _)) hg7
              have ho8 : OwnI w7 w.heap.size (.slice (some ⟨g7, 0, none⟩) (L.length + 1) cap7) (L ++ [x + n]) := by unfold OwnI; rw [List.length_append, List.map_append]; exact ho7.out
              exact hK _ _ ⟨true, true, true, true, true, true, true, true, true, true, true, b11, false, _, _, rfl, rfl, Lib.hid ⟨nofun, fun _ => nofun, fun _ _ => ⟨g7, cap7, rfl, ho8, hg8⟩, nofun⟩⟩
            refine StepsU.cons ?_ ?_
            · intro Q E0 listed a w' hI hM hk haft K hK
              obtain ⟨b0, b1, b2, b3, b4, b5, b6, b7, b8, b9, b10, b11, b12, x65, x66, hl, ha, HF⟩ := hI
              subst hl; subst ha
              obtain ⟨G, G9, G10, G12⟩ := HF.out
              clear HF
              have hk' : b11 = false := hk
              subst hk'
              clear hk
              obtain rfl : b12 = false := by cases b12 with | false => rfl | true => exact absurd (hM 12 11 rfl rfl) Bool.false_ne_true
              clear haft
              go_simp
              exact hK _ _ ⟨b0, b1, b2, b3, b4, b5, b6, b7, b8, b9, b10, true, false, _, _, rfl, rfl, Lib.hid ⟨G, G9, G10, nofun⟩⟩
            refine StepsU.cons ?_ ?_
            · intro Q E0 listed a w' hI hM hk haft K hK
              obtain ⟨b0, b1, b2, b3, b4, b5, b6, b7, b8, b9, b10, b11, b12, x65, x66, hl, ha, HF⟩ := hI
              subst hl; subst ha
              obtain ⟨G, G9, G10, G12⟩ := HF.out
              clear HF
              have hk' : b12 = false := hk
              subst hk'
              clear hk
              obtain rfl : b10 = true := haft ⟨10, .data⟩ (by simp) rfl
              obtain rfl : b11 = true := haft ⟨11, .data⟩ (by simp) rfl
              obtain rfl : b1 = true := hM 10 1 rfl rfl
              obtain rfl : b9 = true := hM 10 9 rfl rfl
              obtain rfl : b0 = true := hM 1 0 rfl rfl
              obtain rfl : b8 = true := hM 9 8 rfl rfl
              obtain rfl : b6 = true := hM 8 6 rfl rfl
              obtain rfl : b7 = true := hM 8 7 rfl rfl
              obtain rfl : b5 = true := hM 6 5 rfl rfl
              obtain rfl : b3 = true := hM 5 3 rfl rfl
              obtain rfl : b4 = true := hM 5 4 rfl rfl
              obtain rfl : b2 = true := hM 3 2 rfl rfl
              clear haft
              have hG := G10 rfl rfl
              obtain ⟨g7, cap7, rfl, ho8, hg8⟩ := hG
              have HX7 := HXD.out.addF hg8 ho8
              have b4' := HXD.out.hdF hg8
              obtain ⟨_, e1', e2', e3'⟩ := blk4 b4'
              have f1' := blkFz b4' 2
              have h07 := blkGrow hg8 h02.out (fun e => ownNe HXD.out.fs h02.out (by decide) e.symm)
              have h17 := blkGrow hg8 h12.out (fun e => ownNe HXD.out.fs h12.out (by decide) e.symm)
              go_simp
              exact hK _ _ ⟨true, true, true, true, true, true, true, true, true, true, true, true, true, _, _, rfl, rfl, Lib.hid ⟨nofun, fun _ => nofun, fun _ => nofun, fun _ => ⟨_, HX7, blkSet h07 (by have := Hgw.out; omega), blkSet h17 (by have := Hgw.out; omega)⟩⟩⟩
            exact StepsU.nil
          · intro G0 hG0 listed a w' hI hall
            obtain ⟨b0, b1, b2, b3, b4, b5, b6, b7, b8, b9, b10, b11, b12, x65, x66, hl, ha, HF⟩ := hI
            subst hl; subst ha
            obtain rfl : b0 = true := hall 0 (by decide)
            obtain rfl : b1 = true := hall 1 (by decide)
            obtain rfl : b2 = true := hall 2 (by decide)
            obtain rfl : b3 = true := hall 3 (by decide)
            obtain rfl : b4 = true := hall 4 (by decide)
            obtain rfl : b5 = true := hall 5 (by decide)
            obtain rfl : b6 = true := hall 6 (by decide)
            obtain rfl : b7 = true := hall 7 (by decide)
            obtain rfl : b8 = true := hall 8 (by decide)
            obtain rfl : b9 = true := hall 9 (by decide)
            obtain rfl : b10 = true := hall 10 (by decide)
            obtain rfl : b11 = true := hall 11 (by decide)
            obtain rfl : b12 = true := hall 12 (by decide)
            exact hG0 _ _ _ (HF.out.2.2.2 rfl)
          · intro x65 x66 w' hFin
            obtain ⟨v', hS', hw0, hw1⟩ := hFin
            clear d1D d2D d3D c0D e1D m0D d1 e1 m0 c0 d2 d3 e0 e2 e3 HXD h02 h12
            go_wp2
            go_roundw
            case rel => exact ⟨k + 1, _, by omega, by go_num, by rw [Hst.out]; exact hS', hw0, hw1⟩
            case measure => simp [intOf]; omega
        · obtain rfl : k = D.firsts.length := by omega
          rw [List.take_length] at hs
          obtain ⟨F1, hF1⟩ : ∃ F1, F1 = D.firsts.map (· + n) := ⟨_, rfl⟩
          rw [← hF1] at hs
          have HF1 := Lib.hid hF1; clear hF1
          have HFB : Hid (∀ b, vf.ownBlock = some b → b < wr.heap.size) := fun b hb => (World.ownsRow.lt hs.out.fs _ hb).2
          have HS := Lib.hid hs.out.rebase; have K0 := h0; have K1 := h1; have HBE := Lib.hid hs.out.sz; clear hs h0 h1
          obtain ⟨BE, hBE⟩ : ∃ BE, BE = wr.heap.size := ⟨_, rfl⟩
          rw [← hBE] at HS HFB HBE
          clear hBE
          go_wp2_with fail
          clear c0 d1 d2 d3 hlt hk
          go_loopw [8] (fun i wr => ∃ (k : Nat) (ve : Value), k ≤ D.ends.length ∧ i = .int .i64 k ∧ Hid (NSt w wr g BE (D.states + n) vm vf ve M1 F1 ((D.ends.take k).map (· + n))) ∧ Hid (wr.heap[w.heap.size]? = some (.cells #[.int .i64 D.states, .slice a1 D.moves.length c1, .slice a2 D.firsts.length c2, .slice a3 D.ends.length c3] 36 (0, 0))) ∧ Hid (wr.heap[w.heap.size + 1]? = some (.cells #[.int .i64 0, .slice none 0 0, .slice none 0 0, .slice none 0 0] 36 (0, 0)))) (fun i _ => D.ends.length - (intOf i).toNat)
          case atStart => exact ⟨0, _, by omega, rfl, HS, K0, K1⟩
          case round =>
            obtain ⟨k, ve, hk, rfl, hs, h0, h1⟩ := hrel
            clear HS K0 K1
            obtain ⟨c0, d1, d2, d3⟩ := blk4 h0.out
            by_cases hlt : k < D.ends.length
            · obtain ⟨b, off, rfl, m0⟩ := ((H0.out.2.2).stay (kpB hs.out.bel)).at hlt
              have Hst := Lib.hid (map_take_step (· + n) D.ends hlt)
              have hr := HR.out.2.1 _ (List.getElem_mem hlt)
              obtain ⟨x, hx⟩ : ∃ x, x = D.ends[k] := ⟨_, rfl⟩
              rw [← hx] at m0 Hst hr
              clear hx
              have hn := Hn.out
              have hw1 : IntKind.i64.wrap (x + n) = x + n := IntWalk.i64_in _ (by omega)
              obtain ⟨L, hL⟩ : ∃ L, L = (D.ends.take k).map (· + n) := ⟨_, rfl⟩
              rw [← hL] at hs Hst
              have hml := Lib.hid (show L.length ≤ 1000000000 from by rw [hL, List.length_map, List.length_take]; have := HLN.out; omega)
              clear hL hr hn
              obtain ⟨am, cm, hvm, _⟩ := hs.out.en.shape
              obtain ⟨nm, hnm⟩ : ∃ nm, nm = L.length := ⟨_, rfl⟩
              rw [← hnm] at hvm
              have Hnm := Lib.hid hnm; clear hnm
              subst hvm
              obtain ⟨e0, e1, e2, e3⟩ := blk4 hs.out.hd
              have HXD := Lib.hid (hs.out.stay (Below.refl _ _).drew)
              have h02 : Hid (wr.drew.heap[w.heap.size]? = _) := h0
              have h12 : Hid (wr.drew.heap[w.heap.size + 1]? = _) := h1
              have c0D : wr.drew.cell? ⟨w.heap.size, 0, none⟩ = _ := c0
              have d1D : wr.drew.cell? ⟨w.heap.size, 1, none⟩ = _ := d1
              have d2D : wr.drew.cell? ⟨w.heap.size, 2, none⟩ = _ := d2
              have d3D : wr.drew.cell? ⟨w.heap.size, 3, none⟩ = _ := d3
              have e1D : wr.drew.cell? ⟨g, 3, none⟩ = _ := e3
              have m0D : wr.drew.cell? ⟨b, off + k, none⟩ = _ := m0
              have hltI : (k : Int) < (D.ends.length : Int) := by omega
              have hk0 : (0 : Int) ≤ (k : Int) := Int.natCast_nonneg _
              go_wp2_with fail
              refine wp_region_inv2 [(1, 0), (3, 2), (5, 3), (5, 4), (6, 5), (8, 6), (8, 7), (9, 8), (10, 1), (10, 9), (12, 10), (12, 11)] (fun listed a w' => ∃ (b0 b1 b2 b3 b4 b5 b6 b7 b8 b9 b10 b11 b12 : Bool) (x84 x85 : Value), listed = #[b0, b1, b2, b3, b4, b5, b6, b7, b8, b9, b10, b11, b12] ∧ a = { tmps := #[Value.agg #[Value.int IntKind.i64 D.states, Value.slice a1 D.moves.length c1, Value.slice a2 D.firsts.length c2, Value.slice (some { block := b, off := off }) D.ends.length c3], Value.int IntKind.i64 n, Value.pointer (some { block := w.heap.size, off := 0 }), undef, Value.pointer (some { block := w.heap.size + 1, off := 0 }), Value.pointer (some { block := g, off := 0 }), Value.int IntKind.i64 ↑D.moves.length, Value.int IntKind.i64 ↑D.firsts.length, Value.int IntKind.i64 ↑k, Value.pointer (some { block := w.heap.size, off := 0 }), Value.int IntKind.i64 D.states, Value.int IntKind.i64 n, Value.int IntKind.i64 (D.states + n), Value.agg #[Value.int IntKind.i64 (D.states + n), Value.slice none 0 0, Value.slice none 0 0, Value.slice none 0 0], Value.int IntKind.i64 ↑D.moves.length, Value.pointer (some { block := w.heap.size, off := 1 }), Value.slice a1 D.moves.length c1, Value.int IntKind.i64 ↑D.moves.length, Value.bool false, u19, u20, u21, u22, u23, u24, u25, u26, u27, u28, u29, u30, u31, u32, u33, u34, u35, u36, u37, u38, u39, u40, u41, u42, u43, u44, u45, u46, u47, u48, Value.int IntKind.i64 ↑D.firsts.length, Value.pointer (some { block := w.heap.size, off := 2 }), Value.slice a2 D.firsts.length c2, Value.int IntKind.i64 ↑D.firsts.length, Value.bool false, u54, u55, u56, u57, u58, u59, u60, u61, u62, u63, u64, u65, u66, u67, Value.int IntKind.i64 ↑k, Value.pointer (some { block := w.heap.size, off := 3 }), Value.slice (some { block := b, off := off }) D.ends.length c3, Value.int IntKind.i64 ↑D.ends.length, Value.bool true, u73, u74, cond b0 (.pointer (some ⟨g, 3, none⟩)) (u75), cond b1 (.slice am nm cm) (u76), cond b2 (.pointer (some ⟨w.heap.size, 3, none⟩)) (u77), cond b3 (.slice (some ⟨b, off, none⟩) D.ends.length c3) (u78), cond b4 (.int .i64 k) (u79), cond b5 (.pointer (some ⟨b, off + k, none⟩)) (u80), cond b6 (.int .i64 x) (u81), cond b7 (.int .i64 n) (u82), cond b8 (.int .i64 (x + n)) (u83), x84, x85, cond b11 (.pointer (some ⟨g, 3, none⟩)) (u86), undef], defers := [] } ∧ Hid ((b9 = false → w' = wr.drew) ∧ (b9 = true → b10 = false → (w' = (wr.drew.alloc (.cells #[.int .i64 (x + n)] 3)) ∧ x84 = .slice (some ⟨wr.heap.size, 0, none⟩) 1 1)) ∧ (b10 = true → b12 = false → (∃ (g7 : Nat) (cap7 : Nat), x85 = .slice (some ⟨g7, 0, none⟩) (L.length + 1) cap7 ∧ OwnI w' BE (.slice (some ⟨g7, 0, none⟩) (L.length + 1) cap7) (L ++ [x + n]) ∧ wr.drew.grownBy w' (Value.slice am nm cm).ownBlock)) ∧ (b12 = true → (∃ v', NSt w w' g BE (D.states + n) vm vf v' M1 F1 (L ++ [x + n]) ∧ w'.heap[w.heap.size]? = some (.cells #[.int .i64 D.states, .slice a1 D.moves.length c1, .slice a2 D.firsts.length c2, .slice (some ⟨b, off, none⟩) D.ends.length c3] 36 (0, 0)) ∧ w'.heap[w.heap.size + 1]? = some (.cells #[.int .i64 0, .slice none 0 0, .slice none 0 0, .slice none 0 0] 36 (0, 0)))))) (fun G => ∀ (x84 x85 : Value) (w' : World), ((∃ v', NSt w w' g BE (D.states + n) vm vf v' M1 F1 (L ++ [x + n]) ∧ w'.heap[w.heap.size]? = some (.cells #[.int .i64 D.states, .slice a1 D.moves.length c1, .slice a2 D.firsts.length c2, .slice (some ⟨b, off, none⟩) D.ends.length c3] 36 (0, 0)) ∧ w'.heap[w.heap.size + 1]? = some (.cells #[.int .i64 0, .slice none 0 0, .slice none 0 0, .slice none 0 0] 36 (0, 0)))) → G { tmps := #[Value.agg #[Value.int IntKind.i64 D.states, Value.slice a1 D.moves.length c1, Value.slice a2 D.firsts.length c2, Value.slice (some { block := b, off := off }) D.ends.length c3], Value.int IntKind.i64 n, Value.pointer (some { block := w.heap.size, off := 0 }), undef, Value.pointer (some { block := w.heap.size + 1, off := 0 }), Value.pointer (some { block := g, off := 0 }), Value.int IntKind.i64 ↑D.moves.length, Value.int IntKind.i64 ↑D.firsts.length, Value.int IntKind.i64 ↑k, Value.pointer (some { block := w.heap.size, off := 0 }), Value.int IntKind.i64 D.states, Value.int IntKind.i64 n, Value.int IntKind.i64 (D.states + n), Value.agg #[Value.int IntKind.i64 (D.states + n), Value.slice none 0 0, Value.slice none 0 0, Value.slice none 0 0], Value.int IntKind.i64 ↑D.moves.length, Value.pointer (some { block := w.heap.size, off := 1 }), Value.slice a1 D.moves.length c1, Value.int IntKind.i64 ↑D.moves.length, Value.bool false, u19, u20, u21, u22, u23, u24, u25, u26, u27, u28, u29, u30, u31, u32, u33, u34, u35, u36, u37, u38, u39, u40, u41, u42, u43, u44, u45, u46, u47, u48, Value.int IntKind.i64 ↑D.firsts.length, Value.pointer (some { block := w.heap.size, off := 2 }), Value.slice a2 D.firsts.length c2, Value.int IntKind.i64 ↑D.firsts.length, Value.bool false, u54, u55, u56, u57, u58, u59, u60, u61, u62, u63, u64, u65, u66, u67, Value.int IntKind.i64 ↑k, Value.pointer (some { block := w.heap.size, off := 3 }), Value.slice (some { block := b, off := off }) D.ends.length c3, Value.int IntKind.i64 ↑D.ends.length, Value.bool true, u73, u74, .pointer (some ⟨g, 3, none⟩), .slice am nm cm, .pointer (some ⟨w.heap.size, 3, none⟩), .slice (some ⟨b, off, none⟩) D.ends.length c3, .int .i64 k, .pointer (some ⟨b, off + k, none⟩), .int .i64 x, .int .i64 n, .int .i64 (x + n), x84, x85, .pointer (some ⟨g, 3, none⟩), undef], defers := [] } w') (by kernel_rfl) (by kernel_rfl) (by kernel_rfl) (by kernel_rfl) ?_ ?_ ?_ ?_
              · exact ⟨false, false, false, false, false, false, false, false, false, false, false, false, false, u84, u85, rfl, rfl, Lib.hid ⟨fun _ => rfl, nofun, nofun, nofun⟩⟩
              · refine StepsU.cons ?_ ?_
                · intro Q E0 listed a w' hI hM hk haft K hK
                  obtain ⟨b0, b1, b2, b3, b4, b5, b6, b7, b8, b9, b10, b11, b12, x84, x85, hl, ha, HF⟩ := hI
                  subst hl; subst ha
                  obtain ⟨G, G9, G10, G12⟩ := HF.out
                  clear HF
                  have hk' : b0 = false := hk
                  subst hk'
                  clear hk
                  obtain rfl : b1 = false := by cases b1 with | false => rfl | true => exact absurd (hM 1 0 rfl rfl) Bool.false_ne_true
                  obtain rfl : b10 = false := by cases b10 with | false => rfl | true => exact absurd (hM 10 1 rfl rfl) Bool.false_ne_true
                  obtain rfl : b12 = false := by cases b12 with | false => rfl | true => exact absurd (hM 12 10 rfl rfl) Bool.false_ne_true
                  clear haft
                  go_simp
                  exact hK _ _ ⟨true, false, b2, b3, b4, b5, b6, b7, b8, b9, false, b11, false, _, _, rfl, rfl, Lib.hid ⟨G, G9, nofun, nofun⟩⟩
                refine StepsU.cons ?_ ?_
                · intro Q E0 listed a w' hI hM hk haft K hK
                  obtain ⟨b0, b1, b2, b3, b4, b5, b6, b7, b8, b9, b10, b11, b12, x84, x85, hl, ha, HF⟩ := hI
                  subst hl; subst ha
                  obtain ⟨G, G9, G10, G12⟩ := HF.out
                  clear HF
                  have hk' : b1 = false := hk
                  subst hk'
                  clear hk
                  obtain rfl : b10 = false := by cases b10 with | false => rfl | true => exact absurd (hM 10 1 rfl rfl) Bool.false_ne_true
                  obtain rfl : b12 = false := by cases b12 with | false => rfl | true => exact absurd (hM 12 10 rfl rfl) Bool.false_ne_true
                  obtain rfl : b0 = true := haft ⟨0, .data⟩ (by simp) rfl
                  clear haft
                  have e1W : w'.cell? ⟨g, 3, none⟩ = some (.slice am nm cm) := by cases b9 with | false => (rw [G rfl]; exact e1D) | true => (rw [(G9 rfl rfl).1]; exact kpAlloc (S := fun _ => True) _ _ trivial e1D)
                  go_simp
                  exact hK _ _ ⟨true, true, b2, b3, b4, b5, b6, b7, b8, b9, false, b11, false, _, _, rfl, rfl, Lib.hid ⟨G, G9, nofun, nofun⟩⟩
                refine StepsU.cons ?_ ?_
                · intro Q E0 listed a w' hI hM hk haft K hK
                  obtain ⟨b0, b1, b2, b3, b4, b5, b6, b7, b8, b9, b10, b11, b12, x84, x85, hl, ha, HF⟩ := hI
                  subst hl; subst ha
                  obtain ⟨G, G9, G10, G12⟩ := HF.out
                  clear HF
                  have hk' : b2 = false := hk
                  subst hk'
                  clear hk
                  obtain rfl : b3 = false := by cases b3 with | false => rfl | true => exact absurd (hM 3 2 rfl rfl) Bool.false_ne_true
                  obtain rfl : b5 = false := by cases b5 with | false => rfl | true => exact absurd (hM 5 3 rfl rfl) Bool.false_ne_true
                  obtain rfl : b6 = false := by cases b6 with | false => rfl | true => exact absurd (hM 6 5 rfl rfl) Bool.false_ne_true
                  obtain rfl : b8 = false := by cases b8 with | false => rfl | true => exact absurd (hM 8 6 rfl rfl) Bool.false_ne_true
                  obtain rfl : b9 = false := by cases b9 with | false => rfl | true => exact absurd (hM 9 8 rfl rfl) Bool.false_ne_true
                  obtain rfl : b10 = false := by cases b10 with | false => rfl | true => exact absurd (hM 10 9 rfl rfl) Bool.false_ne_true
                  obtain rfl : b12 = false := by cases b12 with | false => rfl | true => exact absurd (hM 12 10 rfl rfl) Bool.false_ne_true
                  clear haft
                  obtain rfl := G rfl
                  go_simp
                  exact hK _ _ ⟨b0, b1, true, false, b4, false, false, b7, false, false, false, b11, false, _, _, rfl, rfl, Lib.hid ⟨fun _ => rfl, nofun, nofun, nofun⟩⟩
                refine StepsU.cons ?_ ?_
                · intro Q E0 listed a w' hI hM hk haft K hK
                  obtain ⟨b0, b1, b2, b3, b4, b5, b6, b7, b8, b9, b10, b11, b12, x84, x85, hl, ha, HF⟩ := hI
                  subst hl; subst ha
                  obtain ⟨G, G9, G10, G12⟩ := HF.out
                  clear HF
                  have hk' : b3 = false := hk
                  subst hk'
                  clear hk
                  obtain rfl : b5 = false := by cases b5 with | false => rfl | true => exact absurd (hM 5 3 rfl rfl) Bool.false_ne_true
                  obtain rfl : b6 = false := by cases b6 with | false => rfl | true => exact absurd (hM 6 5 rfl rfl) Bool.false_ne_true
                  obtain rfl : b8 = false := by cases b8 with | false => rfl | true => exact absurd (hM 8 6 rfl rfl) Bool.false_ne_true
                  obtain rfl : b9 = false := by cases b9 with | false => rfl | true => exact absurd (hM 9 8 rfl rfl) Bool.false_ne_true
                  obtain rfl : b10 = false := by cases b10 with | false => rfl | true => exact absurd (hM 10 9 rfl rfl) Bool.false_ne_true
                  obtain rfl : b12 = false := by cases b12 with | false => rfl | true => exact absurd (hM 12 10 rfl rfl) Bool.false_ne_true
                  obtain rfl : b2 = true := haft ⟨2, .data⟩ (by simp) rfl
                  clear haft
                  obtain rfl := G rfl
                  go_simp
                  exact hK _ _ ⟨b0, b1, true, true, b4, false, false, b7, false, false, false, b11, false, _, _, rfl, rfl, Lib.hid ⟨fun _ => rfl, nofun, nofun, nofun⟩⟩
                refine StepsU.cons ?_ ?_
                · intro Q E0 listed a w' hI hM hk haft K hK
                  obtain ⟨b0, b1, b2, b3, b4, b5, b6, b7, b8, b9, b10, b11, b12, x84, x85, hl, ha, HF⟩ := hI
                  subst hl; subst ha
                  obtain ⟨G, G9, G10, G12⟩ := HF.out
                  clear HF
                  have hk' : b4 = false := hk
                  subst hk'
                  clear hk
                  obtain rfl : b5 = false := by cases b5 with | false => rfl | true => exact absurd (hM 5 4 rfl rfl) Bool.false_ne_true
                  obtain rfl : b6 = false := by cases b6 with | false => rfl | true => exact absurd (hM 6 5 rfl rfl) Bool.false_ne_true
                  obtain rfl : b8 = false := by cases b8 with | false => rfl | true => exact absurd (hM 8 6 rfl rfl) Bool.false_ne_true
                  obtain rfl : b9 = false := by cases b9 with | false => rfl | true => exact absurd (hM 9 8 rfl rfl) Bool.false_ne_true
                  obtain rfl : b10 = false := by cases b10 with | false => rfl | true => exact absurd (hM 10 9 rfl rfl) Bool.false_ne_true
                  obtain rfl : b12 = false := by cases b12 with | false => rfl | true => exact absurd (hM 12 10 rfl rfl) Bool.false_ne_true
                  clear haft
                  obtain rfl := G rfl
                  go_simp
                  exact hK _ _ ⟨b0, b1, b2, b3, true, false, false, b7, false, false, false, b11, false, _, _, rfl, rfl, Lib.hid ⟨fun _ => rfl, nofun, nofun, nofun⟩⟩
                refine StepsU.cons ?_ ?_
                · intro Q E0 listed a w' hI hM hk haft K hK
                  obtain ⟨b0, b1, b2, b3, b4, b5, b6, b7, b8, b9, b10, b11, b12, x84, x85, hl, ha, HF⟩ := hI
                  subst hl; subst ha
                  obtain ⟨G, G9, G10, G12⟩ := HF.out
                  clear HF
                  have hk' : b5 = false := hk
                  subst hk'
                  clear hk
                  obtain rfl : b6 = false := by cases b6 with | false => rfl | true => exact absurd (hM 6 5 rfl rfl) Bool.false_ne_true
                  obtain rfl : b8 = false := by cases b8 with | false => rfl | true => exact absurd (hM 8 6 rfl rfl) Bool.false_ne_true
                  obtain rfl : b9 = false := by cases b9 with | false => rfl | true => exact absurd (hM 9 8 rfl rfl) Bool.false_ne_true
                  obtain rfl : b10 = false := by cases b10 with | false => rfl | true => exact absurd (hM 10 9 rfl rfl) Bool.false_ne_true
                  obtain rfl : b12 = false := by cases b12 with | false => rfl | true => exact absurd (hM 12 10 rfl rfl) Bool.false_ne_true
                  obtain rfl : b3 = true := haft ⟨3, .data⟩ (by simp) rfl
                  obtain rfl : b4 = true := haft ⟨4, .data⟩ (by simp) rfl
                  obtain rfl : b2 = true := hM 3 2 rfl rfl
                  clear haft
                  obtain rfl := G rfl
                  go_simp
                  exact hK _ _ ⟨b0, b1, true, true, true, true, false, b7, false, false, false, b11, false, _, _, rfl, rfl, Lib.hid ⟨fun _ => rfl, nofun, nofun, nofun⟩⟩
                refine StepsU.cons ?_ ?_
                · intro Q E0 listed a w' hI hM hk haft K hK
                  obtain ⟨b0, b1, b2, b3, b4, b5, b6, b7, b8, b9, b10, b11, b12, x84, x85, hl, ha, HF⟩ := hI
                  subst hl; subst ha
                  obtain ⟨G, G9, G10, G12⟩ := HF.out
                  clear HF
                  have hk' : b6 = false := hk
                  subst hk'
                  clear hk
                  obtain rfl : b8 = false := by cases b8 with | false => rfl | true => exact absurd (hM 8 6 rfl rfl) Bool.false_ne_true
                  obtain rfl : b9 = false := by cases b9 with | false => rfl | true => exact absurd (hM 9 8 rfl rfl) Bool.false_ne_true
                  obtain rfl : b10 = false := by cases b10 with | false => rfl | true => exact absurd (hM 10 9 rfl rfl) Bool.false_ne_true
                  obtain rfl : b12 = false := by cases b12 with | false => rfl | true => exact absurd (hM 12 10 rfl rfl) Bool.false_ne_true
                  obtain rfl : b5 = true := haft ⟨5, .data⟩ (by simp) rfl
                  obtain rfl : b3 = true := hM 5 3 rfl rfl
                  obtain rfl : b4 = true := hM 5 4 rfl rfl
                  obtain rfl : b2 = true := hM 3 2 rfl rfl
                  clear haft
                  obtain rfl := G rfl
                  go_simp
                  exact hK _ _ ⟨b0, b1, true, true, true, true, true, b7, false, false, false, b11, false, _, _, rfl, rfl, Lib.hid ⟨fun _ => rfl, nofun, nofun, nofun⟩⟩
                refine StepsU.cons ?_ ?_
                · intro Q E0 listed a w' hI hM hk haft K hK
                  obtain ⟨b0, b1, b2, b3, b4, b5, b6, b7, b8, b9, b10, b11, b12, x84, x85, hl, ha, HF⟩ := hI
                  subst hl; subst ha
                  obtain ⟨G, G9, G10, G12⟩ := HF.out
                  clear HF
                  have hk' : b7 = false := hk
                  subst hk'
                  clear hk
                  obtain rfl : b8 = false := by cases b8 with | false => rfl | true => exact absurd (hM 8 7 rfl rfl) Bool.false_ne_true
                  obtain rfl : b9 = false := by cases b9 with | false => rfl | true => exact absurd (hM 9 8 rfl rfl) Bool.false_ne_true
                  obtain rfl : b10 = false := by cases b10 with | false => rfl | true => exact absurd (hM 10 9 rfl rfl) Bool.false_ne_true
                  obtain rfl : b12 = false := by cases b12 with | false => rfl | true => exact absurd (hM 12 10 rfl rfl) Bool.false_ne_true
                  clear haft
                  obtain rfl := G rfl
                  go_simp
                  exact hK _ _ ⟨b0, b1, b2, b3, b4, b5, b6, true, false, false, false, b11, false, _, _, rfl, rfl, Lib.hid ⟨fun _ => rfl, nofun, nofun, nofun⟩⟩
                refine StepsU.cons ?_ ?_
                · intro Q E0 listed a w' hI hM hk haft K hK
                  obtain ⟨b0, b1, b2, b3, b4, b5, b6, b7, b8, b9, b10, b11, b12, x84, x85, hl, ha, HF⟩ := hI
                  subst hl; subst ha
                  obtain ⟨G, G9, G10, G12⟩ := HF.out
                  clear HF
                  have hk' : b8 = false := hk
                  subst hk'
                  clear hk
                  obtain rfl : b9 = false := by cases b9 with | false => rfl | true => exact absurd (hM 9 8 rfl rfl) Bool.false_ne_true
                  obtain rfl : b10 = false := by cases b10 with | false => rfl | true => exact absurd (hM 10 9 rfl rfl) Bool.false_ne_true
                  obtain rfl : b12 = false := by cases b12 with | false => rfl | true => exact absurd (hM 12 10 rfl rfl) Bool.false_ne_true
                  obtain rfl : b6 = true := haft ⟨6, .data⟩ (by simp) rfl
                  obtain rfl : b7 = true := haft ⟨7, .data⟩ (by simp) rfl
                  obtain rfl : b5 = true := hM 6 5 rfl rfl
                  obtain rfl : b3 = true := hM 5 3 rfl rfl
                  obtain rfl : b4 = true := hM 5 4 rfl rfl
                  obtain rfl : b2 = true := hM 3 2 rfl rfl
                  clear haft
                  obtain rfl := G rfl
                  go_simp
                  exact hK _ _ ⟨b0, b1, true, true, true, true, true, true, true, false, false, b11, false, _, _, rfl, rfl, Lib.hid ⟨fun _ => rfl, nofun, nofun, nofun⟩⟩
                refine StepsU.cons ?_ ?_
                · intro Q E0 listed a w' hI hM hk haft K hK
                  obtain ⟨b0, b1, b2, b3, b4, b5, b6, b7, b8, b9, b10, b11, b12, x84, x85, hl, ha, HF⟩ := hI
                  subst hl; subst ha
                  obtain ⟨G, G9, G10, G12⟩ := HF.out
                  clear HF
                  have hk' : b9 = false := hk
                  subst hk'
                  clear hk
                  obtain rfl : b10 = false := by cases b10 with | false => rfl | true => exact absurd (hM 10 9 rfl rfl) Bool.false_ne_true
                  obtain rfl : b12 = false := by cases b12 with | false => rfl | true => exact absurd (hM 12 10 rfl rfl) Bool.false_ne_true
                  obtain rfl : b8 = true := haft ⟨8, .data⟩ (by simp) rfl
                  obtain rfl : b6 = true := hM 8 6 rfl rfl
                  obtain rfl : b7 = true := hM 8 7 rfl rfl
                  obtain rfl : b5 = true := hM 6 5 rfl rfl
                  obtain rfl : b3 = true := hM 5 3 rfl rfl
                  obtain rfl : b4 = true := hM 5 4 rfl rfl
                  obtain rfl : b2 = true := hM 3 2 rfl rfl
                  clear haft
                  obtain rfl := G rfl
                  go_simp
                  exact hK _ _ ⟨b0, b1, true, true, true, true, true, true, true, true, false, b11, false, _, _, rfl, rfl, Lib.hid ⟨nofun, fun _ _ => ⟨rfl, rfl⟩, nofun, nofun⟩⟩
                refine StepsU.cons ?_ ?_
                · intro Q E0 listed a w' hI hM hk haft K hK
                  obtain ⟨b0, b1, b2, b3, b4, b5, b6, b7, b8, b9, b10, b11, b12, x84, x85, hl, ha, HF⟩ := hI
                  subst hl; subst ha
                  obtain ⟨G, G9, G10, G12⟩ := HF.out
                  clear HF
                  have hk' : b10 = false := hk
                  subst hk'
                  clear hk
                  obtain rfl : b12 = false := by cases b12 with | false => rfl | true => exact absurd (hM 12 10 rfl rfl) Bool.false_ne_true
                  obtain rfl : b1 = true := haft ⟨1, .data⟩ (by simp) rfl
                  obtain rfl : b9 = true := haft ⟨9, .data⟩ (by simp) rfl
                  obtain rfl : b0 = true := hM 1 0 rfl rfl
                  obtain rfl : b8 = true := hM 9 8 rfl rfl
                  obtain rfl : b6 = true := hM 8 6 rfl rfl
                  obtain rfl : b7 = true := hM 8 7 rfl rfl
                  obtain rfl : b5 = true := hM 6 5 rfl rfl
                  obtain rfl : b3 = true := hM 5 3 rfl rfl
                  obtain rfl : b4 = true := hM 5 4 rfl rfl
                  obtain rfl : b2 = true := hM 3 2 rfl rfl
                  clear haft
                  have hG := G9 rfl rfl
                  obtain ⟨rfl, rfl⟩ := hG
                  refine stepAppAt elInt (by decide) rfl (.tmp 76) (.tmp 84) rfl BE _ _ _ [.int .i64 (x + n)] _ wr.heap.size rfl rfl (HXD.out.en.alloc _) (by exact blkNew _ _ rfl) rfl (by simp [Value.oneCell']) (by have := hml.out; have := Hnm.out; omega) (by have h1 : BE ≤ wr.heap.size := HXD.out.eB.2; simp; omega) ?_
                  intro g7 cap7 w7 ho7 hg7 hat7
                  have hg8 : wr.drew.grownBy w7 (Value.slice am nm cm).ownBlock := grownTrans (grownBel ((Below.refl _ _).alloc (Nat.le_refl _) _)) hg7
                  have ho8 : OwnI w7 BE (.slice (some ⟨g7, 0, none⟩) (L.length + 1) cap7) (L ++ [x + n]) := by unfold OwnI; rw [List.length_append, List.map_append]; exact ho7.out
                  exact hK _ _ ⟨true, true, true, true, true, true, true, true, true, true, true, b11, false, _, _, rfl, rfl, Lib.hid ⟨nofun, fun _ => nofun, fun _ _ => ⟨g7, cap7, rfl, ho8, hg8⟩, nofun⟩⟩
                refine StepsU.cons ?_ ?_
                · intro Q E0 listed a w' hI hM hk haft K hK
                  obtain ⟨b0, b1, b2, b3, b4, b5, b6, b7, b8, b9, b10, b11, b12, x84, x85, hl, ha, HF⟩ := hI
                  subst hl; subst ha
                  obtain ⟨G, G9, G10, G12⟩ := HF.out
                  clear HF
                  have hk' : b11 = false := hk
                  subst hk'
                  clear hk
                  obtain rfl : b12 = false := by cases b12 with | false => rfl | true => exact absurd (hM 12 11 rfl rfl) Bool.false_ne_true
                  clear haft
                  go_simp
                  exact hK _ _ ⟨b0, b1, b2, b3, b4, b5, b6, b7, b8, b9, b10, true, false, _, _, rfl, rfl, Lib.hid ⟨G, G9, G10, nofun⟩⟩
                refine StepsU.cons ?_ ?_
                · intro Q E0 listed a w' hI hM hk haft K hK
                  obtain ⟨b0, b1, b2, b3, b4, b5, b6, b7, b8, b9, b10, b11, b12, x84, x85, hl, ha, HF⟩ := hI
                  subst hl; subst ha
                  obtain ⟨G, G9, G10, G12⟩ := HF.out
                  clear HF
                  have hk' : b12 = false := hk
                  subst hk'
                  clear hk
                  obtain rfl : b10 = true := haft ⟨10, .data⟩ (by simp) rfl
                  obtain rfl : b11 = true := haft ⟨11, .data⟩ (by simp) rfl
                  obtain rfl : b1 = true := hM 10 1 rfl rfl
                  obtain rfl : b9 = true := hM 10 9 rfl rfl
                  obtain rfl : b0 = true := hM 1 0 rfl rfl
                  obtain rfl : b8 = true := hM 9 8 rfl rfl
                  obtain rfl : b6 = true := hM 8 6 rfl rfl
                  obtain rfl : b7 = true := hM 8 7 rfl rfl
                  obtain rfl : b5 = true := hM 6 5 rfl rfl
                  obtain rfl : b3 = true := hM 5 3 rfl rfl
                  obtain rfl : b4 = true := hM 5 4 rfl rfl
                  obtain rfl : b2 = true := hM 3 2 rfl rfl
                  clear haft
                  have hG := G10 rfl rfl
                  obtain ⟨g7, cap7, rfl, ho8, hg8⟩ := hG
                  have HX7 := HXD.out.addE HFB.out hg8 ho8
                  have b4' := HXD.out.hdE hg8
                  obtain ⟨_, e1', e2', e3'⟩ := blk4 b4'
                  have f1' := blkFz b4' 3
                  have h07 := blkGrow hg8 h02.out (fun e => ownNe HXD.out.en h02.out (by decide) e.symm)
                  have h17 := blkGrow hg8 h12.out (fun e => ownNe HXD.out.en h12.out (by decide) e.symm)
                  go_simp
                  exact hK _ _ ⟨true, true, true, true, true, true, true, true, true, true, true, true, true, _, _, rfl, rfl, Lib.hid ⟨nofun, fun _ => nofun, fun _ => nofun, fun _ => ⟨_, HX7, blkSet h07 (by have := Hgw.out; omega), blkSet h17 (by have := Hgw.out; omega)⟩⟩⟩
                exact StepsU.nil
              · intro G0 hG0 listed a w' hI hall
                obtain ⟨b0, b1, b2, b3, b4, b5, b6, b7, b8, b9, b10, b11, b12, x84, x85, hl, ha, HF⟩ := hI
                subst hl; subst ha
                obtain rfl : b0 = true := hall 0 (by decide)
                obtain rfl : b1 = true := hall 1 (by decide)
                obtain rfl : b2 = true := hall 2 (by decide)
                obtain rfl : b3 = true := hall 3 (by decide)
                obtain rfl : b4 = true := hall 4 (by decide)
                obtain rfl : b5 = true := hall 5 (by decide)
                obtain rfl : b6 = true := hall 6 (by decide)
                obtain rfl : b7 = true := hall 7 (by decide)
                obtain rfl : b8 = true := hall 8 (by decide)
                obtain rfl : b9 = true := hall 9 (by decide)
                obtain rfl : b10 = true := hall 10 (by decide)
                obtain rfl : b11 = true := hall 11 (by decide)
                obtain rfl : b12 = true := hall 12 (by decide)
                exact hG0 _ _ _ (HF.out.2.2.2 rfl)
              · intro x84 x85 w' hFin
                obtain ⟨v', hS', hw0, hw1⟩ := hFin
                clear d1D d2D d3D c0D e1D m0D d1 e1 m0 c0 d2 d3 e0 e2 e3 HXD h02 h12
                go_wp2
                go_roundw
                case rel => exact ⟨k + 1, _, by omega, by go_num, by rw [Hst.out]; exact hS', hw0, hw1⟩
                case measure => simp [intOf]; omega
            · obtain rfl : k = D.ends.length := by omega
              rw [List.take_length] at hs
              obtain ⟨E1, hE1⟩ : ∃ E1, E1 = D.ends.map (· + n) := ⟨_, rfl⟩
              rw [← hE1] at hs
              have HD : Hid (shD D n = ⟨D.states + n, M1, F1, E1⟩) := Lib.hid (by rw [HE1.out, HF1.out, hE1]; rfl)
              clear hE1
              obtain ⟨a1', n1', ca1', rfl⟩ := hs.out.mv.sl
              obtain ⟨a2', n2', ca2', rfl⟩ := hs.out.fs.sl
              obtain ⟨a3', n3', ca3', rfl⟩ := hs.out.en.sl
              obtain ⟨e0, e1, e2, e3⟩ := blk4 hs.out.hd
              obtain ⟨f0, f1, f2, f3⟩ := blk4 h1.out
              have g1 := blkFz h1.out
              go_wp2
              refine bodyPost_ret (v := .agg #[.int .i64 (D.states + n), .slice a1' n1' ca1', .slice a2' n2' ca2', .slice a3' n3' ca3']) (by simp [results, Try.results156, go_sem, f0, f1, f2, f3, g1]) rfl ⟨_, _, _, rfl, ?_, ?_⟩
              · exact bel4 hs.out.bel (by omega) _ _ _ _
              · rw [HD.out]; exact hs.out.o.set4 _ (by omega) h1.out (by decide) _ _ _ _
end Go.Proofs.Ytbcjhiponbfbnaa
