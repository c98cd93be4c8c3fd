/- Numbers and moves of greater numbers: the program's lists. -/
import Derived.Test.YtnjddneelkdmoaaNfs
set_option linter.unusedSimpArgs false
set_option linter.unusedVariables false
set_option linter.unusedSectionVars false
namespace Go.Proofs.Ytnjddneelkdmoaa
open Go.RowKit
set_option maxRecDepth 100000
variable {S T : Nat → Prop}
theorem okN_rng {D : NfaD} (h : okN D) : (∀ x ∈ D.firsts, 0 ≤ x ∧ x ≤ 39) ∧ (∀ x ∈ D.ends, 0 ≤ x ∧ x ≤ 39) ∧ ∀ m ∈ D.moves, (0 ≤ m.1 ∧ m.1 ≤ 39) ∧ (0 ≤ m.2.2 ∧ m.2.2 ≤ 39) :=
  ⟨okS_rng h.2.2.1 h.1, okS_rng h.2.2.2.1 h.1, fun m hm => by have := h.2.2.2.2 m hm; have := h.1; unfold okM at *; omega⟩
theorem Sr.neq {w0 w : World} {h : Option (Nat × Obj)} {l : List (Option Rw)} (H : Sr w0 w h l) {i j : Nat} (hij : i < j) {r s : Rw} (hi : l[i]? = some (some r)) (hj : l[j]? = some (some s)) (k : Nat) (h1 : r.v.ownBlock = some k) : s.v.ownBlock ≠ some k := by
  obtain ⟨hi', ei⟩ := List.getElem?_eq_some_iff.1 hi
  obtain ⟨hj', ej⟩ := List.getElem?_eq_some_iff.1 hj
  exact List.pairwise_iff_getElem.1 H.ne i j hi' hj' hij r s k ei ej h1
theorem Sr.at {w0 w : World} {h : Option (Nat × Obj)} {l : List (Option Rw)} (H : Sr w0 w h l) (i : Nat) {r : Rw} (hi : l[i]? = some (some r)) : w.ownsRow w0.heap.size r.e r.sz r.v r.n r.cs := H.own r (List.mem_of_getElem? hi)
set_option maxHeartbeats 800000 in
theorem shifted_c (v : Value) (xs : List Int) (n : Int) (w : World) (h : Ints S w v xs) (hx : ∀ x ∈ xs, 0 ≤ x ∧ x ≤ 39) (hn : 0 ≤ n ∧ n ≤ 40) (hl : xs.length ≤ 1000) : Calls Try.prog 203 #[v, .int .i64 n] w (RVn w fun v w' => OwnI w' w.heap.size v (xs.map (· + n))) := by
  obtain ⟨a, cap, rfl, _⟩ := h.shape
  have H := Lib.hid h; clear h
  have HX := Lib.hid hx; clear hx
  go_enter Try.func203, Try.ntmps203
  go_wp2
  go_loopw [5, 10] (fun v i wr => ∃ k : Nat, k ≤ xs.length ∧ i = .int .i64 k ∧ Hid (Below w.heap.size w wr) ∧ Hid (OwnI wr w.heap.size v ((xs.take k).map (· + n)))) (fun _ i _ => xs.length - (intOf i).toNat)
  case atStart => exact ⟨0, by omega, rfl, Below.refl _ _, OwnI.nil _ _⟩
  case round =>
    obtain ⟨k, hk, rfl, hb, ho⟩ := hrel
    by_cases hlt : k < xs.length
    · obtain ⟨b, off, rfl, m0⟩ := (H.out.stay (kpB hb.out)).at hlt
      have Hst := Lib.hid (map_take_step (· + n) xs hlt)
      have hx1 := HX.out _ (List.getElem_mem hlt)
      obtain ⟨x, hx⟩ : ∃ x, x = xs[k] := ⟨_, rfl⟩
      rw [← hx] at m0 Hst hx1
      clear hx
      have hwr : IntKind.i64.wrap (x + n) = x + n := IntWalk.i64_in _ (by omega)
      obtain ⟨L, hL⟩ : ∃ L, L = (xs.take k).map (· + n) := ⟨_, rfl⟩
      rw [← hL] at ho Hst
      have hml := Lib.hid (show L.length ≤ 1000000000 from by rw [hL, List.length_map, List.length_take]; omega)
      clear hL
      have hbs := hb.out.size
      go_wp2_with (at_builtin; refine appInt rfl (.tmp 14) (.tmp 18) rfl w.heap.size _ L _ wr rfl rfl ho.out hml.out hbs ?_; intro v1 w6 h6 hg6)
      go_roundw
      case rel => exact ⟨k + 1, by omega, by go_num, hb.out.grown hg6 hbs (fun k hk => (World.ownsRow.lt ho.out k hk).1), by rw [Hst.out]; exact h6.out⟩
      case measure => simp [intOf]; omega
    · obtain rfl : k = xs.length := by omega
      rw [List.take_length] at ho
      go_wp2
      go_ret
      exact RVn.mk hb.out ho.out
set_option maxHeartbeats 2000000 in
theorem shiftedMoves_c (vma vfa vea vmb vfb veb : Value) (A B : NfaD) (w : World) (hA : NfaR S w vma vfa vea A) (hB : NfaR T w vmb vfb veb B) (okA : okN A) (okB : okN B) :
    Calls Try.prog 202 #[.agg #[.int .i64 A.states, vma, vfa, vea], .agg #[.int .i64 B.states, vmb, vfb, veb]] w (RVn w fun v w' => Own3 w' w.heap.size 40 v (A.moves ++ B.moves.map (sft A.states))) := by
  obtain ⟨a1a, c1a, a2a, c2a, a3a, c3a, rfl, rfl, rfl, _, _, _⟩ := hA.shapes
  obtain ⟨a1b, c1b, a2b, c2b, a3b, c3b, rfl, rfl, rfl, _, _, _⟩ := hB.shapes
  obtain ⟨W, hW⟩ : ∃ W, W = (w.alloc (.cells #[.int .i64 A.states, .slice a1a A.moves.length c1a, .slice a2a A.firsts.length c2a, .slice a3a A.ends.length c3a] 36)).alloc (.cells #[.int .i64 B.states, .slice a1b B.moves.length c1b, .slice a2b B.firsts.length c2b, .slice a3b B.ends.length c3b] 36) := ⟨_, rfl⟩
  have Hb0 : Hid (Below w.heap.size w W) := by rw [hW]; exact ((Below.refl _ _).alloc (Nat.le_refl _) _).alloc (by simp) _
  have k0 : Hid (W.heap[w.heap.size]? = some (.cells #[.int .i64 A.states, .slice a1a A.moves.length c1a, .slice a2a A.firsts.length c2a, .slice a3a A.ends.length c3a] 36 (0, 0))) := by rw [hW]; exact blkOld (blkNew _ _ rfl)
  have k1 : Hid (W.heap[w.heap.size + 1]? = some (.cells #[.int .i64 B.states, .slice a1b B.moves.length c1b, .slice a2b B.firsts.length c2b, .slice a3b B.ends.length c3b] 36 (0, 0))) := by rw [hW]; exact blkNew _ _ (by simp)
  have hz : Hid (W.heap.size = w.heap.size + 2) := by rw [hW]; simp [Hid]
  have HA := Lib.hid hA; have HB := Lib.hid hB; clear hA hB
  have HLA := Lib.hid (okN_len okA); have HLB := Lib.hid (okN_len okB)
  have HRB := Lib.hid (okN_rng okB).2.2
  have hsA := okA.1
  have HW := Lib.hid hW; clear hW okA okB
  go_enter Try.func202, Try.ntmps202
  go_wp2_with fail
  rw [← HW.out]
  clear HW
  obtain ⟨c0, d1, d2, d3⟩ := blk4 k0.out
  go_wp2_with fail
  clear c0 d1 d2 d3
  refine (cloneMove_c _ A.moves W ((HA.out.stay (kpB Hb0.out)).1) (by have := HLA.out; omega)).mono ?_
  rintro e w1 ⟨v1, rfl, hb, ho⟩
  have hbs0 := Hb0.out.size
  have Hb1 := Lib.hid (Hb0.out.trans (hb.mono hbs0))
  replace k0 := Lib.hid (blkBel hb k0.out)
  replace k1 := Lib.hid (blkBel hb k1.out)
  have HO := Lib.hid (show Own3 w1 W.heap.size 40 v1 A.moves from ho.out)
  have hz1 : W.heap.size ≤ w1.heap.size := hb.size
  clear ho hb
  obtain ⟨c0, d1, d2, d3⟩ := blk4 k1.out
  go_wp2_with fail
  clear c0 d1 d2 d3
  go_loopw [5, 14] (fun v i wr => ∃ k : Nat, k ≤ B.moves.length ∧ i = .int .i64 k ∧ Hid (Below w.heap.size w wr) ∧ Hid (W.heap.size ≤ wr.heap.size) ∧ Hid (wr.heap[w.heap.size]? = some (.cells #[.int .i64 A.states, .slice a1a A.moves.length c1a, .slice a2a A.firsts.length c2a, .slice a3a A.ends.length c3a] 36 (0, 0))) ∧ Hid (Own3 wr W.heap.size 40 v (A.moves ++ (B.moves.take k).map (sft A.states)))) (fun _ i _ => B.moves.length - (intOf i).toNat)
  case atStart => exact ⟨0, by omega, rfl, Hb1, hz1, k0, by rw [List.take_zero, List.map_nil, List.append_nil]; exact HO⟩
  case round =>
    obtain ⟨k, hk, rfl, hb, hzr, h0, ho⟩ := hrel
    clear HO k0 k1 Hb1
    by_cases hlt : k < B.moves.length
    · obtain ⟨b, off, rfl, m0, m1, m2⟩ := (HB.out.stay (kpB hb.out)).1.at hlt
      have Hst := Lib.hid (map_take_step (sft A.states) B.moves hlt)
      have hr := HRB.out _ (List.getElem_mem hlt)
      obtain ⟨x, y, z, hxy⟩ : ∃ x y z, B.moves[k] = (x, y, z) := ⟨_, _, _, rfl⟩
      rw [hxy] at m0 m1 m2 Hst hr
      clear hxy
      dsimp only at hr
      have hw1 : IntKind.i64.wrap (x + A.states) = x + A.states := IntWalk.i64_in _ (by omega)
      have hw2 : IntKind.i64.wrap (z + A.states) = z + A.states := IntWalk.i64_in _ (by omega)
      obtain ⟨L, hL⟩ : ∃ L, L = A.moves ++ (B.moves.take k).map (sft A.states) := ⟨_, rfl⟩
      have Hms : Hid (A.moves ++ (B.moves.take (k + 1)).map (sft A.states) = L ++ [(x + A.states, y, z + A.states)]) := Lib.hid (by rw [hL, Hst.out, List.append_assoc]; rfl)
      rw [← hL] at ho
      have hml := Lib.hid (show L.length ≤ 1000000000 from by rw [hL]; simp only [List.length_append, List.length_map, List.length_take]; have := HLA.out; have := HLB.out; omega)
      clear hL Hst
      obtain ⟨w2, hw2'⟩ : ∃ u, u = wr.alloc (.cells #[.int .i64 x, .int .i64 y, .int .i64 z] 40) := ⟨_, rfl⟩
      have hb2 : Below wr.heap.size wr w2 := by rw [hw2']; exact (Below.refl _ _).alloc (Nat.le_refl _) _
      have KM : Hid (w2.heap[wr.heap.size]? = some (.cells #[.int .i64 x, .int .i64 y, .int .i64 z] 40 (0, 0))) := by rw [hw2']; exact blkNew _ _ rfl
      have HW2 := Lib.hid hw2'; clear hw2'
      have hbs := hb.out.size
      have ho2 := Lib.hid (ho.out.stay hb2)
      have h02 := Lib.hid (blkBel hb2 h0.out)
      have hbB := Lib.hid (hb.out.trans (hb2.mono hbs))
      have hz2 : W.heap.size ≤ w2.heap.size := Nat.le_trans hzr.out hb2.size
      clear hb2 ho h0 hb
      obtain ⟨n0, n1, n2⟩ := blk3 KM.out
      obtain ⟨c0, d1, d2, d3⟩ := blk4 h02.out
      go_wp2_with (first | (at_builtin; refine app3 elMove (by decide) rfl (.tmp 18) (.tmp 32) rfl W.heap.size _ L _ _ _ w2 rfl rfl rfl ho2.out hml.out hz2 ?_; intro v1 w6 h6 hg6) | (rw [← HW2.out]))
      have hlt6 := hg6.size
      go_roundw
      case rel => exact ⟨k + 1, by omega, by go_num, hbB.out.grown hg6 hbB.out.size (fun k hk => Nat.le_trans hbs0 (World.ownsRow.lt ho2.out k hk).1), Nat.le_trans hz2 hlt6, blkGrow hg6 h02.out (fun e => ownNe ho2.out h02.out (by decide) e.symm), by rw [Hms.out]; exact h6⟩
      case measure => simp [intOf]; omega
    · obtain rfl : k = B.moves.length := by omega
      rw [List.take_length] at ho
      go_wp2
      go_ret
      exact RVn.mk hb.out (ownBase ho.out hbs0)
end Go.Proofs.Ytnjddneelkdmoaa
