/- An automaton as one with choices: the program's answer. -/
import Derived.Test.YtgihihnbapnnjaaNfo
namespace Go.Proofs.Ytgihihnbapnnjaa
open Go.RowKit
set_option maxRecDepth 100000
variable {S T : Nat → Prop}
/-- The moves of a state. -/
def mvR (D : DfaD) (i n : Nat) : List (Int × Int × Int) := (List.range n).map fun c : Nat => ((i : Int), (c : Int), (dn D i c : Int))
/-- The moves of the first states. -/
def mvA (D : DfaD) (k : Nat) : List (Int × Int × Int) := (List.range k).flatMap fun i => mvR D i 3
theorem mvA_step (D : DfaD) (k : Nat) : mvA D (k + 1) = mvA D k ++ mvR D k 3 := by unfold mvA; rw [List.range_succ, List.flatMap_append]; simp
theorem mvR_step (D : DfaD) (i n : Nat) : mvR D i (n + 1) = mvR D i n ++ [((i : Int), (n : Int), (dn D i n : Int))] := by unfold mvR; rw [List.range_succ, List.map_append]; simp
theorem mvR_len (D : DfaD) (i n : Nat) : (mvR D i n).length = n := by simp [mvR]
theorem mvA_len (D : DfaD) (k : Nat) : (mvA D k).length = 3 * k := by
  induction k with
  | zero => rfl
  | succ k ih => rw [mvA_step, List.length_append, ih, mvR_len]; omega
/-- The states, of the first ones, in which words end. -/
def enA (D : DfaD) (k : Nat) : List Int := ((List.range k).filter (de D)).map fun i : Nat => (i : Int)
theorem enA_step (D : DfaD) (k : Nat) : enA D (k + 1) = if de D k then enA D k ++ [(k : Int)] else enA D k := by
  unfold enA; rw [List.range_succ, List.filter_append, List.map_append]
  by_cases h : de D k <;> simp [h]
theorem enA_len (D : DfaD) (k : Nat) : (enA D k).length ≤ k := by
  unfold enA; rw [List.length_map]; exact Nat.le_trans (List.length_filter_le _ _) (by simp)
/-- An automaton as one with choices. -/
def nfaD (D : DfaD) : NfaD := ⟨D.1.length, mvA D D.1.length, [0], enA D D.1.length⟩
set_option maxHeartbeats 2000000 in
theorem nfa_c (vn ve : Value) (D : DfaD) (w : World) (h : DfaR S w vn ve D) (hD : okD D) : Calls Try.prog 95 #[.agg #[vn, ve]] w (RNf w (nfaD D)) := by
  obtain ⟨a, c, b, d, rfl, rfl, hn, hm⟩ := h.shapes
  have hn40 := hD.1.2
  obtain ⟨W, hW⟩ : ∃ W, W = (((w.alloc (.cells #[.slice a D.1.length c, .slice b D.2.length d] 62)).alloc (.cells #[.int .i64 0, .slice none 0 0, .slice none 0 0, .slice none 0 0] 46)).alloc (.cells #[.int .i64 0] 3)).alloc (.cells #[.int .i64 D.1.length, .slice none 0 0, .slice (some ⟨w.heap.size + 1 + 1, 0, none⟩) 1 1, .slice none 0 0] 46) := ⟨_, rfl⟩
  have Hb0 : Hid (Below w.heap.size w W) := by rw [hW]; exact ((((Below.refl _ _).alloc (Nat.le_refl _) _).alloc (by simp) _).alloc (by simp; omega) _).alloc (by simp; omega) _
  have k0 : Hid (W.heap[w.heap.size]? = some (.cells #[.slice a D.1.length c, .slice b D.2.length d] 62 (0, 0))) := by rw [hW]; exact blkOld (blkOld (blkOld (blkNew _ _ rfl)))
  have k1 : Hid (W.heap[w.heap.size + 1]? = some (.cells #[.int .i64 0, .slice none 0 0, .slice none 0 0, .slice none 0 0] 46 (0, 0))) := by rw [hW]; exact blkOld (blkOld (blkNew _ _ (by simp)))
  have k2 : Hid (W.heap[w.heap.size + 1 + 1]? = some (.cells #[.int .i64 0] 3 (0, 0))) := by rw [hW]; exact blkOld (blkNew _ _ (by simp))
  have k3 : Hid (W.heap[w.heap.size + 1 + 1 + 1]? = some (.cells #[.int .i64 D.1.length, .slice none 0 0, .slice (some ⟨w.heap.size + 1 + 1, 0, none⟩) 1 1, .slice none 0 0] 46 (0, 0))) := by rw [hW]; exact blkNew _ _ (by simp)
  have hz : Hid (W.heap.size = w.heap.size + 4) := by rw [hW]; simp [Hid]
  have H := Lib.hid (h.stay (kpB Hb0.out)); have H0 := Lib.hid h; clear h
  have HD := Lib.hid hD; clear hD
  have HW := Lib.hid hW; clear hW
  go_enter Try.func95, Try.ntmps95
  go_wp2_with fail
  rw [← HW.out]
  clear HW
  have HS : Hid (NSt w W (w.heap.size + 1 + 1 + 1) (w.heap.size + 4) D.1.length (.slice none 0 0) (.slice (some ⟨w.heap.size + 1 + 1, 0, none⟩) 1 1) (.slice none 0 0) [] [0] []) :=
    ⟨Hb0.out, by omega, k3.out, Own3.nil _ _ _, ⟨rfl, .inr ⟨w.heap.size + 1 + 1, 1, _, rfl, by omega, k2.out, Nat.le_refl _, by unfold maxLen; omega, by simp, by simp⟩⟩, ⟨rfl, .inl ⟨rfl, rfl⟩⟩, ⟨by omega, by rw [hz.out]; omega⟩, nofun⟩
  have HC : Hid (∀ wr, Below w.heap.size w wr → DfaR S wr (.slice a D.1.length c) (.slice b D.2.length d) D) := fun wr hb => H0.out.stay (kpB hb)
  clear k2 k3 H H0
  go_loopw [16] (fun i wr => ∃ (k : Nat) (vm ve : Value), k ≤ D.1.length ∧ i = .int .i64 k ∧ Hid (NSt w wr (w.heap.size + 1 + 1 + 1) (w.heap.size + 4) D.1.length vm (.slice (some ⟨w.heap.size + 1 + 1, 0, none⟩) 1 1) ve (mvA D k) [0] (enA D k)) ∧ Hid (wr.heap[w.heap.size]? = some (.cells #[.slice a D.1.length c, .slice b D.2.length d] 62 (0, 0))) ∧ Hid (wr.heap[w.heap.size + 1]? = some (.cells #[.int .i64 0, .slice none 0 0, .slice none 0 0, .slice none 0 0] 46 (0, 0)))) (fun i _ => D.1.length - (intOf i).toNat)
  case atStart => exact ⟨0, _, _, by omega, rfl, HS, k0, k1⟩
  case round =>
    obtain ⟨k, vm, ve, hk, rfl, hs, h0, h1⟩ := hrel
    by_cases hlt : k < D.1.length
    · obtain ⟨b1, o1, br, or_, cr, rfl, hrw, _, hr2⟩ := (HC.out _ (Below.refl _ _)).row HD.out hlt
      have hr1 := kpB (S := fun _ => True) hs.out.bel _ _ trivial hrw
      have HR2 := Lib.hid hr2; clear hr2 hrw
      obtain ⟨c0, c1, _, _⟩ := blk2 h0.out
      go_wp2_with fail
      clear c0 c1 hr1
      go_loopw [23] (fun i wr => ∃ (j : Nat) (vm : Value), j ≤ 3 ∧ i = .int .i64 j ∧ Hid (NSt w wr (w.heap.size + 1 + 1 + 1) (w.heap.size + 4) D.1.length vm (.slice (some ⟨w.heap.size + 1 + 1, 0, none⟩) 1 1) ve (mvA D k ++ mvR D k j) [0] (enA D k)) ∧ Hid (wr.heap[w.heap.size]? = some (.cells #[.slice (some ⟨b1, o1, none⟩) D.1.length c, .slice b D.2.length d] 62 (0, 0))) ∧ Hid (wr.heap[w.heap.size + 1]? = some (.cells #[.int .i64 0, .slice none 0 0, .slice none 0 0, .slice none 0 0] 46 (0, 0)))) (fun i _ => 3 - (intOf i).toNat)
      case atStart => exact ⟨0, vm, by omega, rfl, by simpa [mvR, Hid] using hs.out, h0, h1⟩
      case round =>
        obtain ⟨j, vm2, hj, rfl, hs2, h02, h12⟩ := hrel
        by_cases hlt2 : j < 3
        · have hj3 : (j : Int) < 3 := by omega
          have hr2 := kpB (S := fun _ => True) hs2.out.bel _ _ trivial (HR2.out j hlt2)
          obtain ⟨e0, e1, e2, e3⟩ := blk4 hs2.out.hd
          have hml : (mvA D k ++ mvR D k j).length ≤ 1000000000 := by rw [List.length_append, mvA_len, mvR_len]; omega
          have Hml := Lib.hid hml; clear hml
          go_wp2_with (at_builtin; refine app3 elMove (by decide) rfl (.tmp 29) (.tmp 34) rfl w.heap.size vm2 (mvA D k ++ mvR D k j) _ _ _ wr rfl rfl rfl hs2.out.mv Hml.out hs2.out.sz ?_; intro v1 w6 h6 hg6; obtain ⟨a1, n1, ca1, rfl⟩ := h6.out.sl; obtain ⟨f0, f1, f2, f3⟩ := blk4 (hs2.out.hdM hg6); have f4 := blkFz (hs2.out.hdM hg6) 1)
          have hn := hs2.out.addM hg6 h6.out
          have hw0 := blkGrow hg6 h02.out (fun e => ownNe hs2.out.mv h02.out (by decide) e.symm)
          have hw1 := blkGrow hg6 h12.out (fun e => ownNe hs2.out.mv h12.out (by decide) e.symm)
          go_roundw
          case rel => exact ⟨j + 1, _, by omega, by go_num, by rw [mvR_step, ← List.append_assoc]; exact hn, blkSet hw0 (by omega), blkSet hw1 (by omega)⟩
          case measure => simp [intOf]; omega
        · obtain rfl : j = 3 := by omega
          have hkl : k < D.2.length := by rw [HD.out.2.1]; exact hlt
          have hst := mvA_step D k
          rw [← hst] at hs2
          clear hst
          obtain ⟨b2, o2, rfl, hmk⟩ := (HC.out _ hs2.out.bel).mark HD.out hlt
          obtain ⟨c0, c1, _, _⟩ := blk2 h02.out
          obtain ⟨e0, e1, e2, e3⟩ := blk4 hs2.out.hd
          cases hde : de D k
          · have hen := enA_step D k
            rw [if_neg (by rw [hde]; simp)] at hen
            rw [hde] at hmk
            rw [← hen] at hs2
            clear hen hde
            go_wp2
            go_roundw
            case rel => exact ⟨k + 1, vm2, ve, by omega, by go_num, hs2, h02, h12⟩
            case measure => simp [intOf]; omega
          · have hen := enA_step D k
            rw [if_pos hde] at hen
            rw [hde] at hmk
            have Hen := Lib.hid hen
            have hel := Lib.hid (show (enA D k).length ≤ 1000000000 from by have := enA_len D k; omega)
            clear hen hde
            go_wp2_with (at_builtin; refine appInt rfl (.tmp 44) (.tmp 46) rfl (w.heap.size + 4) ve (enA D k) _ wr rfl rfl hs2.out.en hel.out hs2.out.eB.2 ?_; intro v1 w6 h6 hg6; obtain ⟨a1, n1, ca1, rfl⟩ := h6.out.sl; obtain ⟨f0, f1, f2, f3⟩ := blk4 (hs2.out.hdE hg6); have f4 := blkFz (hs2.out.hdE hg6) 3)
            have hn := hs2.out.addE (fun b hb => by cases hb; show w.heap.size + 1 + 1 < w.heap.size + 4; omega) hg6 h6.out
            have hw0 := blkGrow hg6 h02.out (fun e => ownNe hs2.out.en h02.out (by decide) e.symm)
            have hw1 := blkGrow hg6 h12.out (fun e => ownNe hs2.out.en h12.out (by decide) e.symm)
            go_roundw
            case rel => exact ⟨k + 1, vm2, _, by omega, by go_num, by rw [Hen.out]; exact hn, blkSet hw0 (by omega), blkSet hw1 (by omega)⟩
            case measure => simp [intOf]; omega
    · obtain rfl : k = D.1.length := by omega
      obtain ⟨a1, n1, ca1, rfl⟩ := hs.out.mv.sl
      obtain ⟨a2, n2, ca2, rfl⟩ := hs.out.en.sl
      obtain ⟨e0, e1, e2, e3⟩ := blk4 hs.out.hd
      obtain ⟨f0, f1, f2, f3⟩ := blk4 h1.out
      have g1 := blkFz h1.out
      go_wp2
      refine bodyPost_ret (v := .agg #[.int .i64 D.1.length, .slice a1 n1 ca1, .slice (some ⟨w.heap.size + 1 + 1, 0, none⟩) 1 1, .slice a2 n2 ca2]) (by simp [results, Try.results95, go_sem, f0, f1, f2, f3]) rfl ⟨_, _, _, rfl, ?_, ?_⟩
      · exact bel4 hs.out.bel (by omega) _ _ _ _
      · exact hs.out.o.set4 _ (by omega) h1.out (by decide) _ _ _ _
open Classical in
/-- An automaton as one with choices; the zero value for others. -/
noncomputable def nfv (D : DfaD) : NfaD := if okD D then nfaD D else nfa0
theorem nfv_yes {D : DfaD} (h : okD D) : nfv D = nfaD D := by unfold nfv; rw [if_pos h]
theorem nfv_no {D : DfaD} (h : ¬ okD D) : nfv D = nfa0 := by unfold nfv; rw [if_neg h]
set_option maxHeartbeats 1000000 in
theorem NfaOf_c (vn ve : Value) (D : DfaD) (w : World) (h : DfaR S w vn ve D) : Calls Try.prog 45 #[.agg #[vn, ve]] w (RNf w (nfv D)) := by
  obtain ⟨a, c, b, d, rfl, rfl, hn, hm⟩ := h.shapes
  obtain ⟨W, hW⟩ : ∃ W, W = (w.alloc (.cells #[.slice a D.1.length c, .slice b D.2.length d] 62)).alloc (.cells #[.int .i64 0, .slice none 0 0, .slice none 0 0, .slice none 0 0] 46) := ⟨_, rfl⟩
  have Hb0 : Hid (Below w.heap.size w W) := by rw [hW]; exact ((Below.refl _ _).alloc (Nat.le_refl _) _).alloc (by simp) _
  have k0 : Hid (W.heap[w.heap.size]? = some (.cells #[.slice a D.1.length c, .slice b D.2.length d] 62 (0, 0))) := by rw [hW]; exact blkOld (blkNew _ _ rfl)
  have k1 : Hid (W.heap[w.heap.size + 1]? = some (.cells #[.int .i64 0, .slice none 0 0, .slice none 0 0, .slice none 0 0] 46 (0, 0))) := by rw [hW]; exact blkNew _ _ (by simp)
  have hz : Hid (W.heap.size = w.heap.size + 2) := by rw [hW]; simp [Hid]
  have H := Lib.hid h; clear h
  have HW := Lib.hid hW; clear hW
  go_enter Try.func45, Try.ntmps45
  go_wp2_with fail
  rw [← HW.out]
  clear HW
  refine (DfaValid_c _ _ D W (H.out.stay (kpB Hb0.out))).mono ?_
  rintro e w1 ⟨b1, rfl, hb, hv⟩
  replace Hb0 := Lib.hid (Hb0.out.trans (hb.mono Hb0.out.size))
  replace k0 := Lib.hid (blkBel hb k0.out)
  replace k1 := Lib.hid (blkBel hb k1.out)
  have hz1 := hb.size; clear hb
  cases b1
  · have Ho := Lib.hid (nfv_no (hbF hv)); clear hv
    obtain ⟨e0, e1, e2, e3⟩ := blk4 k1.out
    have g1 := blkFz k1.out
    go_wp2
    refine bodyPost_ret (v := .agg #[.int .i64 0, .slice none 0 0, .slice none 0 0, .slice none 0 0]) (by simp [results, Try.results45, go_sem, e0, e1, e2, e3, g1]) rfl ⟨_, _, _, by rw [Ho.out]; rfl, bel4 Hb0.out (by omega) _ _ _ _, by rw [Ho.out]; exact NfaO.nil _ _⟩
  have hD := hbT hv; clear hv
  have Ho := Lib.hid (nfv_yes hD)
  have HD := Lib.hid hD; clear hD
  obtain ⟨c0, c1, _, _⟩ := blk2 k0.out
  go_wp2_with fail
  clear c0 c1
  refine (nfa_c _ _ D w1 (H.out.stay (kpB Hb0.out)) HD.out).mono ?_
  rintro e w2 ⟨vm, vf, ve, rfl, hb, ho⟩
  replace Hb0 := Lib.hid (Hb0.out.trans (hb.mono Hb0.out.size))
  replace k1 := Lib.hid (blkBel hb k1.out)
  clear hb k0
  have HN := Lib.hid (ho.out.base (base' := w.heap.size) (by have := hz.out; omega)); clear ho
  obtain ⟨a1, n1, ca1, rfl⟩ := HN.out.1.sl
  obtain ⟨a2, n2, ca2, rfl⟩ := HN.out.2.1.sl
  obtain ⟨a3, n3, ca3, rfl⟩ := HN.out.2.2.1.sl
  obtain ⟨x, hx⟩ : ∃ x, x = (nfaD D).states := ⟨_, rfl⟩
  rw [← hx]
  have Hx := Lib.hid hx; clear hx
  obtain ⟨e0, e1, e2, e3⟩ := blk4 k1.out
  have g1 := blkFz k1.out
  go_wp2
  refine bodyPost_ret (v := .agg #[.int .i64 x, .slice a1 n1 ca1, .slice a2 n2 ca2, .slice a3 n3 ca3]) (by simp [results, Try.results45, go_sem, e0, e1, e2, e3, g1]) rfl ⟨_, _, _, by rw [Ho.out, Hx.out], bel4 Hb0.out (by omega) _ _ _ _, ?_⟩
  rw [Ho.out]
  exact HN.out.set4 _ (by omega) k1.out (by decide) _ _ _ _
end Go.Proofs.Ytgihihnbapnnjaa
