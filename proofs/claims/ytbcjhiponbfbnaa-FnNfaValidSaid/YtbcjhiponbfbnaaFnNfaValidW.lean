/- FnNfaValid answers true: the walk. -/
import Derived.Deep.RegionHeld3
import Derived.Test.YtbcjhiponbfbnaaDnf
import Derived.Test.YtbcjhiponbfbnaaRgv
import Derived.Test.YtbcjhiponbfbnaaTrn
set_option linter.unusedSimpArgs false
set_option linter.unusedVariables false
set_option linter.unusedSectionVars false
namespace Go.Proofs.Ytbcjhiponbfbnaa.fnNfaValid
open Go.RowKit
set_option maxRecDepth 100000
variable {S T : Nat → Prop}
/-- The call answers an automaton with choices to be read. -/
def RDn (w : World) (e : Ending) (w' : World) : Prop := ∃ (D : NfaD) (vm vf ve : Value), e = .returned (.agg #[.int .i64 D.states, vm, vf, ve]) ∧ D.moves.length ≤ 1000000 ∧ Below w.heap.size w w' ∧ Hid (NfaR (w.heap.size ≤ ·) w' vm vf ve D)
set_option maxHeartbeats 800000 in
theorem DrawNfaValid_c (v : Value) (bs : List UInt8) (w : World) (h : Bytes S w v bs) : Calls Try.prog 15 #[v] w (RDn w) := by
  obtain ⟨W, hW⟩ : ∃ W, W = w.alloc (.cells #[.int .i64 0, .slice none 0 0, .slice none 0 0, .slice none 0 0] 36) := ⟨_, rfl⟩
  have hb : Below w.heap.size w W := by rw [hW]; exact (Below.refl _ _).alloc (Nat.le_refl _) _
  have K : Hid (W.heap[w.heap.size]? = some (.cells #[.int .i64 0, .slice none 0 0, .slice none 0 0, .slice none 0 0] 36 (0, 0))) := Lib.hid (by rw [hW]; exact blkNew _ _ rfl)
  have hz : W.heap.size = w.heap.size + 1 := by rw [hW]; simp
  have H := Lib.hid (Bytes.stay h (kpB hb)); have HB := Lib.hid hb; have HW := Lib.hid hW; have HZ := Lib.hid hz; clear h hb hW hz
  go_enter Try.func15, Try.ntmps15
  go_wp2_with fail
  rw [← HW.out]
  refine (open_x _ _ W H.out).mono ?_
  rintro e w2 ⟨rb, rfl, hrb, hb2, hr2⟩
  have hs2 := hb2.size
  have HB2 := Lib.hid hb2
  clear hb2
  go_wp2_with fail
  refine (l20Nfa_x rb 0 2 w2 hr2.out (by omega) (by omega)).mono ?_
  rintro e w3 ⟨D, vm, vf, ve, p', rfl, hp', hd3, hr3, hm, hN⟩
  obtain ⟨a1, c1, a2, c2, a3, c3, rfl, rfl, rfl, _, _, _⟩ := hN.out.shapes
  have hzz := HZ.out
  have hkB := hd3.blk (blkBel HB2.out K.out) (by omega)
  obtain ⟨t0, t1, t2, t3⟩ := blk4 hkB
  have tf := blkFz hkB
  have hbel := Lib.hid (HB.out.trans ((HB2.out.trans (hd3.bel hrb hs2)).mono HB.out.size))
  have hK4 := heap_set (heap_set (heap_set (heap_set hkB 0 (.int .i64 D.states)) 1 (.slice a1 D.moves.length c1)) 2 (.slice a2 D.firsts.length c2)) 3 (.slice a3 D.ends.length c3)
  obtain ⟨l0, l1, l2, l3⟩ := blk4 hK4
  have hne : ∀ o (v : Value) (x : World), Kp (w2.heap.size ≤ ·) x (x.setCell ⟨w.heap.size, o, none⟩ v) := fun o v x => kpSet.mono fun b hb => by have hb' : w2.heap.size ≤ b := hb; show b ≠ w.heap.size; omega
  have hF := Lib.hid (⟨D, _, _, _, rfl, hm, (((hbel.out.setCell (p := ⟨w.heap.size, 0, none⟩) (Nat.le_refl _) (.int .i64 D.states)).setCell (p := ⟨w.heap.size, 1, none⟩) (Nat.le_refl _) (.slice a1 D.moves.length c1)).setCell (p := ⟨w.heap.size, 2, none⟩) (Nat.le_refl _) (.slice a2 D.firsts.length c2)).setCell (p := ⟨w.heap.size, 3, none⟩) (Nat.le_refl _) (.slice a3 D.ends.length c3), Lib.hid ((hN.out.stay ((((hne 0 _ _).trans (hne 1 _ _)).trans (hne 2 _ _)).trans (hne 3 _ _))).mono fun b hb => by have hb' : w2.heap.size ≤ b := hb; show w.heap.size ≤ b; omega)⟩ : RDn w (.returned (.agg #[.int .i64 D.states, .slice a1 D.moves.length c1, .slice a2 D.firsts.length c2, .slice a3 D.ends.length c3])) _)
  clear hne hN hr3 hd3 hkB hK4 hzz
  go_wp2
  refine bodyPost_ret (v := .agg #[.int .i64 D.states, .slice a1 D.moves.length c1, .slice a2 D.firsts.length c2, .slice a3 D.ends.length c3]) (by simp [results, Try.results15, go_sem, l0, l1, l2, l3]) rfl ?_
  exact hF.out
theorem nvBel {w w' : World} {g : Nat} {x y z u : Value} (h : Below w.heap.size w w') (hg : w.heap.size ≤ g) : Below w.heap.size w ((((w'.setCell ⟨g, 0, none⟩ x).setCell ⟨g, 1, none⟩ y).setCell ⟨g, 2, none⟩ z).setCell ⟨g, 3, none⟩ u) :=
  (((h.setCell (p := ⟨g, 0, none⟩) hg x).setCell (p := ⟨g, 1, none⟩) hg y).setCell (p := ⟨g, 2, none⟩) hg z).setCell (p := ⟨g, 3, none⟩) hg u
theorem nvRd {w w' : World} {g g2 c : Nat} {r : Option Rw} {D : NfaD} {vm vf ve x y z u : Value} (h : NfaR T w vm vf ve D) (hb : Below w.heap.size w w')
    (ho : ∀ s, some s ∈ [some (⟨40, 3, .slice (some ⟨g2, 0, none⟩) (D.moves.length + 1) c, D.moves.length + 1, [] ++ cells3 D.moves ++ [Value.int .i64 0, Value.int .i64 0, Value.int .i64 D.states]⟩ : Rw), r] → w'.ownsRow w.heap.size s.e s.sz s.v s.n s.cs)
    (hg : ∀ s, some s ∈ [some (⟨40, 3, .slice (some ⟨g2, 0, none⟩) (D.moves.length + 1) c, D.moves.length + 1, [] ++ cells3 D.moves ++ [Value.int .i64 0, Value.int .i64 0, Value.int .i64 D.states]⟩ : Rw), r] → s.v.ownBlock ≠ some g) (hw : w.heap.size ≤ g) :
    NfaR (fun b => b < w.heap.size ∨ b = g2) ((((w'.setCell ⟨g, 0, none⟩ x).setCell ⟨g, 1, none⟩ y).setCell ⟨g, 2, none⟩ z).setCell ⟨g, 3, none⟩ u) (.slice (some ⟨g2, 0, none⟩) (D.moves.length + 1) c) vf ve ⟨D.states, D.moves ++ [(0, 0, D.states)], D.firsts, D.ends⟩ := by
  have h1 := ho _ (List.mem_cons_self ..)
  have h2 : g2 ≠ g := fun e => hg _ (List.mem_cons_self ..) (by rw [e]; rfl)
  have hk : ∀ x : World, ∀ o (v : Value), Kp (fun b => b < w.heap.size ∨ b = g2) x (x.setCell ⟨g, o, none⟩ v) := fun x o v => kpSet.mono fun b hb => by rcases hb with hb | hb <;> omega
  have hk4 := (((hk w' 0 x).trans (hk _ 1 y)).trans (hk _ 2 z)).trans (hk _ 3 u)
  have hin : NfaR (fun b => T b ∧ b < w.heap.size) w vm vf ve D := ⟨Fl.inHeap h.1, Fl.inHeap h.2.1, Fl.inHeap h.2.2⟩
  refine NfaR.stay (w := w') ⟨?_, Fl.mono (Fl.stay hin.2.1 (kpB hb)) (fun b hb => .inl hb.2), Fl.mono (Fl.stay hin.2.2 (kpB hb)) (fun b hb => .inl hb.2)⟩ hk4
  have e1 : cells3 (D.moves ++ [(0, 0, D.states)]) = [] ++ cells3 D.moves ++ [Value.int .i64 0, Value.int .i64 0, Value.int .i64 D.states] := by simp [cells3]
  have e2 : (D.moves ++ [(0, 0, D.states)]).length = D.moves.length + 1 := by simp
  show Fl _ w' _ _ (cells3 (D.moves ++ [(0, 0, D.states)]))
  rw [e1]
  show Fl _ w' _ (D.moves ++ [(0, 0, D.states)]).length _
  rw [e2]
  exact (ownF h1 (f := g2) (fun b hb => by injection hb)).fl.mono fun b hb => .inr hb
theorem bad_no (D : NfaD) (D' : NfaD) (h1 : D'.states = D.states) (h2 : D'.moves = D.moves ++ [(0, 0, D.states)]) : ¬ okN D' := by
  intro h
  have := (h.2.2.2.2 (0, 0, D.states) (by rw [h2]; simp)).2.1.2
  rw [h1] at this
  simp at this
  omega
theorem ok_nil : okN ⟨0, [], [], []⟩ := ⟨by decide, by decide, okSk_zero _ _, okSk_zero _ _, by simp⟩
theorem nfa_nil (w : World) : NfaR (fun _ => True) w (.slice none 0 0) (.slice none 0 0) (.slice none 0 0) ⟨0, [], [], []⟩ := ⟨Fl.nil _, Fl.nil _, Fl.nil _⟩
set_option maxHeartbeats 8000000 in
theorem walk (w : World) (v : Value) (bs : List UInt8) (h : Bytes (fun _ => True) w v bs) :
    Calls Try.prog 4 #[v] w (Yes w) := by
  obtain ⟨ax, cap, rfl, hn⟩ := h.shape
  have H := Lib.hid h; clear h
  by_cases hl : 1048576 < bs.length
  · go_enter Try.func4, Try.ntmps4
    go_wp2
    go_ret
    exact ⟨rfl, Below.refl _ _⟩
  · go_enter Try.func4, Try.ntmps4
    go_wp2_with fail
    refine (DrawNfaValid_c _ _ _ H.out).mono ?_
    rintro e w1 ⟨D, vm, vf, ve, rfl, hm, hb1, hN⟩
    obtain ⟨a1, c1, a2, c2, a3, c3, rfl, rfl, rfl, _, _, _⟩ := hN.out.shapes
    obtain ⟨W, hW⟩ : ∃ W, W = w1.alloc (.cells #[.int .i64 D.states, .slice a1 D.moves.length c1, .slice a2 D.firsts.length c2, .slice a3 D.ends.length c3] 36) := ⟨_, rfl⟩
    have hb : Below w1.heap.size w1 W := by rw [hW]; exact (Below.refl _ _).alloc (Nat.le_refl _) _
    have K : Hid (W.heap[w1.heap.size]? = some (.cells #[.int .i64 D.states, .slice a1 D.moves.length c1, .slice a2 D.firsts.length c2, .slice a3 D.ends.length c3] 36 (0, 0))) := Lib.hid (by rw [hW]; exact blkNew _ _ rfl)
    have HB := Lib.hid (hb1.trans (hb.mono hb1.size))
    have HN := Lib.hid (hN.out.stay (kpB hb))
    have HM := Lib.hid hm
    have HW := Lib.hid hW
    clear hW hb hN hb1 H hn hl hm
    obtain ⟨y0, y1, y2, y3⟩ := blk4 K.out
    rw [HW.out] at y0 y1 y2 y3
    go_wp2_with fail
    rw [← HW.out]
    clear y0 y1 y2 y3 HW
    refine (NfaValid_c _ _ _ D W HN.out).mono ?_
    rintro e w2 ⟨okb, rfl, hb2, hv1⟩
    have K2 := Lib.hid (blkBel hb2 K.out)
    have HN2 := Lib.hid (HN.out.stay (kpB hb2))
    have HB2 := Lib.hid (HB.out.trans (hb2.mono HB.out.size))
    clear K HN HB hb2
    obtain ⟨y0, y1, y2, y3⟩ := blk4 K2.out
    go_wp2_with fail
    clear y0 y1 y2 y3
    refine (sNfaValid_c _ _ _ D w2 HN2.out).mono ?_
    rintro e w3 ⟨okc, rfl, hb3, hv2⟩
    obtain rfl : okb = okc := boolEq hv1 hv2
    have hne := bneSelf okb
    have K3 := Lib.hid (blkBel hb3 K2.out)
    have HN3 := Lib.hid (HN2.out.stay (kpB hb3))
    have HB3 := Lib.hid (HB2.out.trans (hb3.mono HB2.out.size))
    clear K2 HN2 HB2 hb3 hv1 hv2
    generalize w1.heap.size = B at *
    go_wp2_with fail
    have HK : Hid (∀ w', Below w3.heap.size w3 w' → w'.cell? ⟨B, 0, none⟩ = some (.int .i64 D.states) ∧ w'.cell? ⟨B, 1, none⟩ = some (.slice a1 D.moves.length c1) ∧ w'.cell? ⟨B, 2, none⟩ = some (.slice a2 D.firsts.length c2) ∧ w'.cell? ⟨B, 3, none⟩ = some (.slice a3 D.ends.length c3)) := fun w' hb => blk4 (blkBel hb K3.out)
    clear K3
    refine wp_region_inv2 [(1, 0), (4, 3), (5, 2), (5, 4), (7, 6), (8, 7), (9, 8), (10, 5), (10, 9), (12, 11), (14, 13), (15, 1), (15, 10), (15, 12), (15, 14), (17, 0), (17, 1), (17, 2), (17, 3), (17, 4), (17, 5), (17, 6), (17, 7), (17, 8), (17, 9), (17, 10), (17, 11), (17, 12), (17, 13), (17, 14), (17, 15), (17, 16)] (fun listed a w' => ∃ (b0 b1 b2 b3 b4 b5 b6 b7 b8 b9 b10 b11 b12 b13 b14 b15 b16 b17 : Bool) (x5 x19 x22 x26 x27 : Value) (hh : Option (Nat × Obj)) (r0 r1 : Option Rw), listed = #[b0, b1, b2, b3, b4, b5, b6, b7, b8, b9, b10, b11, b12, b13, b14, b15, b16, b17] ∧ a = { tmps := #[Value.slice ax bs.length cap, undef, Value.bool false, Value.pointer (some ⟨B, 0, none⟩), Value.bool okb, x5, Value.slice ax bs.length cap, Value.int IntKind.i64 (bs.length : Int), Value.bool (decide ((1048576 : Int) < (bs.length : Int))), Value.slice ax bs.length cap, Value.agg #[Value.int IntKind.i64 D.states, Value.slice a1 D.moves.length c1, Value.slice a2 D.firsts.length c2, Value.slice a3 D.ends.length c3], Value.agg #[Value.int IntKind.i64 D.states, Value.slice a1 D.moves.length c1, Value.slice a2 D.firsts.length c2, Value.slice a3 D.ends.length c3], Value.bool okb, Value.bool okb, Value.agg #[Value.int IntKind.i64 D.states, Value.slice a1 D.moves.length c1, Value.slice a2 D.firsts.length c2, Value.slice a3 D.ends.length c3], Value.bool okb, Value.bool false, cond b0 (.pointer (some ⟨B, 0, none⟩)) (undef), cond b1 (.int .i64 D.states) (undef), x19, cond b3 (.pointer (some ⟨B, 1, none⟩)) (undef), cond b4 (.slice a1 D.moves.length c1) (undef), x22, cond b6 (.pointer (some ⟨B, 0, none⟩)) (undef), cond b7 (.int .i64 D.states) (undef), cond b8 (.agg #[.int .i64 0, .int .i64 0, .int .i64 D.states]) (undef), x26, x27, cond b11 (.pointer (some ⟨B, 2, none⟩)) (undef), cond b12 (.slice a2 D.firsts.length c2) (undef), cond b13 (.pointer (some ⟨B, 3, none⟩)) (undef), cond b14 (.slice a3 D.ends.length c3) (undef), cond b15 (.agg #[.int .i64 D.states, x27, .slice a2 D.firsts.length c2, .slice a3 D.ends.length c3]) (undef), undef, undef, undef, undef, undef, undef, undef, undef, undef, undef], defers := [] } ∧ Hid ((b2 = false → r0 = none) ∧ (b2 = true → ∃ (g : Nat) (c : Nat), x19 = .slice (some ⟨g, 0, none⟩) (0) c ∧ (b5 = false → r0 = some ⟨40, 3, x19, 0, []⟩)) ∧ (b5 = true → ∃ (g : Nat) (c : Nat), x22 = .slice (some ⟨g, 0, none⟩) (D.moves.length) c ∧ (b10 = false → r0 = some ⟨40, 3, x22, D.moves.length, ([] ++ cells3 D.moves)⟩)) ∧ (b10 = true → ∃ (g : Nat) (c : Nat), x27 = .slice (some ⟨g, 0, none⟩) ((D.moves.length + 1)) c ∧ r0 = some ⟨40, 3, x27, (D.moves.length + 1), ([] ++ cells3 D.moves ++ [Value.int .i64 0, Value.int .i64 0, Value.int .i64 D.states])⟩) ∧ (b9 = false → r1 = none) ∧ (b9 = true → ∃ (g : Nat) (c : Nat), x26 = .slice (some ⟨g, 0, none⟩) (1) c ∧ r1 = some ⟨40, 3, x26, 1, [Value.int .i64 0, Value.int .i64 0, Value.int .i64 D.states]⟩) ∧ (b16 = false → hh = none) ∧ (b16 = true → b17 = false → ∃ g : Nat, x5 = .pointer (some ⟨g, 0, none⟩) ∧ hh = some (g, .cells #[.int .i64 0, .slice none 0 0, .slice none 0 0, .slice none 0 0] 36 (0, 0))) ∧ (b17 = true → ∃ (g g2 c : Nat), x5 = .pointer (some ⟨g, 0, none⟩) ∧ Below w3.heap.size w3 w' ∧ NfaR (fun b => b < w3.heap.size ∨ b = g2) w' (.slice (some ⟨g2, 0, none⟩) (D.moves.length + 1) c) (.slice a2 D.firsts.length c2) (.slice a3 D.ends.length c3) ⟨D.states, D.moves ++ [(0, 0, D.states)], D.firsts, D.ends⟩ ∧ w'.heap[g]? = some (.cells #[.int .i64 D.states, .slice (some ⟨g2, 0, none⟩) (D.moves.length + 1) c, .slice a2 D.firsts.length c2, .slice a3 D.ends.length c3] 36 (0, 0))) ∧ (b17 = false → Sr w3 w' hh [r0, r1]))) (fun G => ∀ (x5 x19 x22 x26 x27 : Value) (w' : World), (∃ (g g2 c : Nat), x5 = .pointer (some ⟨g, 0, none⟩) ∧ Below w3.heap.size w3 w' ∧ NfaR (fun b => b < w3.heap.size ∨ b = g2) w' (.slice (some ⟨g2, 0, none⟩) (D.moves.length + 1) c) (.slice a2 D.firsts.length c2) (.slice a3 D.ends.length c3) ⟨D.states, D.moves ++ [(0, 0, D.states)], D.firsts, D.ends⟩ ∧ w'.heap[g]? = some (.cells #[.int .i64 D.states, .slice (some ⟨g2, 0, none⟩) (D.moves.length + 1) c, .slice a2 D.firsts.length c2, .slice a3 D.ends.length c3] 36 (0, 0))) → G { tmps := #[Value.slice ax bs.length cap, undef, Value.bool false, Value.pointer (some ⟨B, 0, none⟩), Value.bool okb, x5, Value.slice ax bs.length cap, Value.int IntKind.i64 (bs.length : Int), Value.bool (decide ((1048576 : Int) < (bs.length : Int))), Value.slice ax bs.length cap, Value.agg #[Value.int IntKind.i64 D.states, Value.slice a1 D.moves.length c1, Value.slice a2 D.firsts.length c2, Value.slice a3 D.ends.length c3], Value.agg #[Value.int IntKind.i64 D.states, Value.slice a1 D.moves.length c1, Value.slice a2 D.firsts.length c2, Value.slice a3 D.ends.length c3], Value.bool okb, Value.bool okb, Value.agg #[Value.int IntKind.i64 D.states, Value.slice a1 D.moves.length c1, Value.slice a2 D.firsts.length c2, Value.slice a3 D.ends.length c3], Value.bool okb, Value.bool false, .pointer (some ⟨B, 0, none⟩), .int .i64 D.states, x19, .pointer (some ⟨B, 1, none⟩), .slice a1 D.moves.length c1, x22, .pointer (some ⟨B, 0, none⟩), .int .i64 D.states, .agg #[.int .i64 0, .int .i64 0, .int .i64 D.states], x26, x27, .pointer (some ⟨B, 2, none⟩), .slice a2 D.firsts.length c2, .pointer (some ⟨B, 3, none⟩), .slice a3 D.ends.length c3, .agg #[.int .i64 D.states, x27, .slice a2 D.firsts.length c2, .slice a3 D.ends.length c3], undef, undef, undef, undef, undef, undef, undef, undef, undef, undef], defers := [] } w') (by kernel_rfl) (by kernel_rfl) (by kernel_rfl) (by kernel_rfl) ?_ ?_ ?_ ?_
    · exact ⟨false, false, false, false, false, false, false, false, false, false, false, false, false, false, false, false, false, false, undef, undef, undef, undef, undef, none, none, none, rfl, rfl, Lib.hid ⟨fun _ => rfl, nofun, nofun, nofun, fun _ => rfl, nofun, fun _ => rfl, nofun, nofun, fun _ => Sr.start w3 2⟩⟩
    · refine StepsU.cons ?_ ?_
      · intro Q E0 listed a w' hI hM hk haft K hK
        obtain ⟨b0, b1, b2, b3, b4, b5, b6, b7, b8, b9, b10, b11, b12, b13, b14, b15, b16, b17, x5, x19, x22, x26, x27, hh, r0, r1, hl, ha, HF⟩ := hI
        subst hl; subst ha
        obtain ⟨N0, P0_0, P0_1, P0_2, N1, P1_0, NH, PH, Z, HS⟩ := HF.out
        clear HF
        have hk' : b0 = false := hk
        subst hk'
        clear hk
        obtain rfl : b1 = false := by cases b1 with | false => rfl | true => exact absurd (hM 1 0 rfl rfl) Bool.false_ne_true
        obtain rfl : b15 = false := by cases b15 with | false => rfl | true => exact absurd (hM 15 1 rfl rfl) Bool.false_ne_true
        obtain rfl : b17 = false := by cases b17 with | false => rfl | true => exact absurd (hM 17 0 rfl rfl) Bool.false_ne_true
        clear haft
        have hSr := HS rfl
        have hBl := hSr.bel
        obtain ⟨q0, q1, q2, q3⟩ := HK.out w' hBl
        go_simp
        exact hK _ _ ⟨true, false, b2, b3, b4, b5, b6, b7, b8, b9, b10, b11, b12, b13, b14, false, b16, false, _, _, _, _, _, _, _, _, rfl, rfl, Lib.hid ⟨N0, P0_0, P0_1, P0_2, N1, P1_0, NH, PH, nofun, fun _ => hSr⟩⟩
      refine StepsU.cons ?_ ?_
      · intro Q E0 listed a w' hI hM hk haft K hK
        obtain ⟨b0, b1, b2, b3, b4, b5, b6, b7, b8, b9, b10, b11, b12, b13, b14, b15, b16, b17, x5, x19, x22, x26, x27, hh, r0, r1, hl, ha, HF⟩ := hI
        subst hl; subst ha
        obtain ⟨N0, P0_0, P0_1, P0_2, N1, P1_0, NH, PH, Z, HS⟩ := HF.out
        clear HF
        have hk' : b1 = false := hk
        subst hk'
        clear hk
        obtain rfl : b15 = false := by cases b15 with | false => rfl | true => exact absurd (hM 15 1 rfl rfl) Bool.false_ne_true
        obtain rfl : b17 = false := by cases b17 with | false => rfl | true => exact absurd (hM 17 1 rfl rfl) Bool.false_ne_true
        obtain rfl : b0 = true := haft ⟨0, .data⟩ (by simp) rfl
        clear haft
        have hSr := HS rfl
        have hBl := hSr.bel
        obtain ⟨q0, q1, q2, q3⟩ := HK.out w' hBl
        go_simp
        exact hK _ _ ⟨true, true, b2, b3, b4, b5, b6, b7, b8, b9, b10, b11, b12, b13, b14, false, b16, false, _, _, _, _, _, _, _, _, rfl, rfl, Lib.hid ⟨N0, P0_0, P0_1, P0_2, N1, P1_0, NH, PH, nofun, fun _ => hSr⟩⟩
      refine StepsU.cons ?_ ?_
      · intro Q E0 listed a w' hI hM hk haft K hK
        obtain ⟨b0, b1, b2, b3, b4, b5, b6, b7, b8, b9, b10, b11, b12, b13, b14, b15, b16, b17, x5, x19, x22, x26, x27, hh, r0, r1, hl, ha, HF⟩ := hI
        subst hl; subst ha
        obtain ⟨N0, P0_0, P0_1, P0_2, N1, P1_0, NH, PH, Z, HS⟩ := HF.out
        clear HF
        have hk' : b2 = false := hk
        subst hk'
        clear hk
        obtain rfl : b5 = false := by cases b5 with | false => rfl | true => exact absurd (hM 5 2 rfl rfl) Bool.false_ne_true
        obtain rfl : b10 = false := by cases b10 with | false => rfl | true => exact absurd (hM 10 5 rfl rfl) Bool.false_ne_true
        obtain rfl : b15 = false := by cases b15 with | false => rfl | true => exact absurd (hM 15 10 rfl rfl) Bool.false_ne_true
        obtain rfl : b17 = false := by cases b17 with | false => rfl | true => exact absurd (hM 17 2 rfl rfl) Bool.false_ne_true
        clear haft
        have hSr := HS rfl
        have hBl := hSr.bel
        obtain ⟨q0, q1, q2, q3⟩ := HK.out w' hBl
        obtain rfl := N0 rfl
        go_simp
        exact hK _ _ ⟨b0, b1, true, b3, b4, false, b6, b7, b8, b9, false, b11, b12, b13, b14, false, b16, false, _, .slice (some ⟨w'.heap.size, 0, none⟩) 0 0, _, _, _, _, some ⟨40, 3, .slice (some ⟨w'.heap.size, 0, none⟩) 0 0, 0, []⟩, _, rfl, rfl, Lib.hid ⟨nofun, fun _ => ⟨w'.heap.size, 0, rfl, fun _ => rfl⟩, nofun, nofun, N1, P1_0, NH, PH, nofun, fun _ => Sr.call [] [r1] ⟨40, 3, .slice (some ⟨w'.heap.size, 0, none⟩) 0 0, 0, []⟩ hSr ((Below.refl _ _).alloc (Nat.le_refl _) _) (ownLit (n := 0) [] (Nat.le_refl _) (by omega) rfl)⟩⟩
      refine StepsU.cons ?_ ?_
      · intro Q E0 listed a w' hI hM hk haft K hK
        obtain ⟨b0, b1, b2, b3, b4, b5, b6, b7, b8, b9, b10, b11, b12, b13, b14, b15, b16, b17, x5, x19, x22, x26, x27, hh, r0, r1, hl, ha, HF⟩ := hI
        subst hl; subst ha
        obtain ⟨N0, P0_0, P0_1, P0_2, N1, P1_0, NH, PH, Z, HS⟩ := HF.out
        clear HF
        have hk' : b3 = false := hk
        subst hk'
        clear hk
        obtain rfl : b4 = false := by cases b4 with | false => rfl | true => exact absurd (hM 4 3 rfl rfl) Bool.false_ne_true
        obtain rfl : b5 = false := by cases b5 with | false => rfl | true => exact absurd (hM 5 4 rfl rfl) Bool.false_ne_true
        obtain rfl : b10 = false := by cases b10 with | false => rfl | true => exact absurd (hM 10 5 rfl rfl) Bool.false_ne_true
        obtain rfl : b15 = false := by cases b15 with | false => rfl | true => exact absurd (hM 15 10 rfl rfl) Bool.false_ne_true
        obtain rfl : b17 = false := by cases b17 with | false => rfl | true => exact absurd (hM 17 3 rfl rfl) Bool.false_ne_true
        clear haft
        have hSr := HS rfl
        have hBl := hSr.bel
        obtain ⟨q0, q1, q2, q3⟩ := HK.out w' hBl
        go_simp
        exact hK _ _ ⟨b0, b1, b2, true, false, false, b6, b7, b8, b9, false, b11, b12, b13, b14, false, b16, false, _, _, _, _, _, _, _, _, rfl, rfl, Lib.hid ⟨N0, P0_0, nofun, nofun, N1, P1_0, NH, PH, nofun, fun _ => hSr⟩⟩
      refine StepsU.cons ?_ ?_
      · intro Q E0 listed a w' hI hM hk haft K hK
        obtain ⟨b0, b1, b2, b3, b4, b5, b6, b7, b8, b9, b10, b11, b12, b13, b14, b15, b16, b17, x5, x19, x22, x26, x27, hh, r0, r1, hl, ha, HF⟩ := hI
        subst hl; subst ha
        obtain ⟨N0, P0_0, P0_1, P0_2, N1, P1_0, NH, PH, Z, HS⟩ := HF.out
        clear HF
        have hk' : b4 = false := hk
        subst hk'
        clear hk
        obtain rfl : b5 = false := by cases b5 with | false => rfl | true => exact absurd (hM 5 4 rfl rfl) Bool.false_ne_true
        obtain rfl : b10 = false := by cases b10 with | false => rfl | true => exact absurd (hM 10 5 rfl rfl) Bool.false_ne_true
        obtain rfl : b15 = false := by cases b15 with | false => rfl | true => exact absurd (hM 15 10 rfl rfl) Bool.false_ne_true
        obtain rfl : b17 = false := by cases b17 with | false => rfl | true => exact absurd (hM 17 4 rfl rfl) Bool.false_ne_true
        obtain rfl : b3 = true := haft ⟨3, .data⟩ (by simp) rfl
        clear haft
        have hSr := HS rfl
        have hBl := hSr.bel
        obtain ⟨q0, q1, q2, q3⟩ := HK.out w' hBl
        go_simp
        exact hK _ _ ⟨b0, b1, b2, true, true, false, b6, b7, b8, b9, false, b11, b12, b13, b14, false, b16, false, _, _, _, _, _, _, _, _, rfl, rfl, Lib.hid ⟨N0, P0_0, nofun, nofun, N1, P1_0, NH, PH, nofun, fun _ => hSr⟩⟩
      refine StepsU.cons ?_ ?_
      · intro Q E0 listed a w' hI hM hk haft K hK
        obtain ⟨b0, b1, b2, b3, b4, b5, b6, b7, b8, b9, b10, b11, b12, b13, b14, b15, b16, b17, x5, x19, x22, x26, x27, hh, r0, r1, hl, ha, HF⟩ := hI
        subst hl; subst ha
        obtain ⟨N0, P0_0, P0_1, P0_2, N1, P1_0, NH, PH, Z, HS⟩ := HF.out
        clear HF
        have hk' : b5 = false := hk
        subst hk'
        clear hk
        obtain rfl : b10 = false := by cases b10 with | false => rfl | true => exact absurd (hM 10 5 rfl rfl) Bool.false_ne_true
        obtain rfl : b15 = false := by cases b15 with | false => rfl | true => exact absurd (hM 15 10 rfl rfl) Bool.false_ne_true
        obtain rfl : b17 = false := by cases b17 with | false => rfl | true => exact absurd (hM 17 5 rfl rfl) Bool.false_ne_true
        obtain rfl : b2 = true := haft ⟨2, .data⟩ (by simp) rfl
        obtain rfl : b4 = true := haft ⟨4, .data⟩ (by simp) rfl
        obtain rfl : b3 = true := hM 4 3 rfl rfl
        clear haft
        obtain ⟨g2, c2, rfl, hr2⟩ := P0_0 rfl
        obtain rfl := hr2 rfl
        have hSr := HS rfl
        have hBl := hSr.bel
        obtain ⟨q0, q1, q2, q3⟩ := HK.out w' hBl
        have hrow := hSr.own _ (List.mem_append_right [] (List.mem_cons_self ..))
        refine stepAppX elMove (by decide) rfl (.tmp 19) (.tmp 21) rfl w3.heap.size g2 (0) c2 (D.moves.length) _ _ (cells3 D.moves) w' rfl rfl hrow ((HN3.out.1.stay (kpB hBl))) (by rw [length_cells3]; omega) (cells3_one _) (by have := HM.out; omega) hBl.size ?_
        intro g' c' w1 hoc hgc hat
        rw [Nat.zero_add] at hoc ⊢
        exact hK _ _ ⟨b0, b1, true, true, true, true, b6, b7, b8, b9, false, b11, b12, b13, b14, false, b16, false, _, _, .slice (some ⟨g', 0, none⟩) (D.moves.length) c', _, _, _, some ⟨40, 3, .slice (some ⟨g', 0, none⟩) (D.moves.length) c', D.moves.length, ([] ++ cells3 D.moves)⟩, _, rfl, rfl, Lib.hid ⟨nofun, fun _ => ⟨_, _, rfl, nofun⟩, fun _ => ⟨g', c', rfl, fun _ => rfl⟩, nofun, N1, P1_0, NH, PH, nofun, fun _ => Sr.grow [] [r1] ⟨40, 3, .slice (some ⟨g', 0, none⟩) (D.moves.length) c', D.moves.length, ([] ++ cells3 D.moves)⟩ hSr rfl rfl hgc hoc hat⟩⟩
      refine StepsU.cons ?_ ?_
      · intro Q E0 listed a w' hI hM hk haft K hK
        obtain ⟨b0, b1, b2, b3, b4, b5, b6, b7, b8, b9, b10, b11, b12, b13, b14, b15, b16, b17, x5, x19, x22, x26, x27, hh, r0, r1, hl, ha, HF⟩ := hI
        subst hl; subst ha
        obtain ⟨N0, P0_0, P0_1, P0_2, N1, P1_0, NH, PH, Z, HS⟩ := HF.out
        clear HF
        have hk' : b6 = false := hk
        subst hk'
        clear hk
        obtain rfl : b7 = false := by cases b7 with | false => rfl | true => exact absurd (hM 7 6 rfl rfl) Bool.false_ne_true
        obtain rfl : b8 = false := by cases b8 with | false => rfl | true => exact absurd (hM 8 7 rfl rfl) Bool.false_ne_true
        obtain rfl : b9 = false := by cases b9 with | false => rfl | true => exact absurd (hM 9 8 rfl rfl) Bool.false_ne_true
        obtain rfl : b10 = false := by cases b10 with | false => rfl | true => exact absurd (hM 10 9 rfl rfl) Bool.false_ne_true
        obtain rfl : b15 = false := by cases b15 with | false => rfl | true => exact absurd (hM 15 10 rfl rfl) Bool.false_ne_true
        obtain rfl : b17 = false := by cases b17 with | false => rfl | true => exact absurd (hM 17 6 rfl rfl) Bool.false_ne_true
        clear haft
        have hSr := HS rfl
        have hBl := hSr.bel
        obtain ⟨q0, q1, q2, q3⟩ := HK.out w' hBl
        go_simp
        exact hK _ _ ⟨b0, b1, b2, b3, b4, b5, true, false, false, false, false, b11, b12, b13, b14, false, b16, false, _, _, _, _, _, _, _, _, rfl, rfl, Lib.hid ⟨N0, P0_0, P0_1, nofun, N1, nofun, NH, PH, nofun, fun _ => hSr⟩⟩
      refine StepsU.cons ?_ ?_
      · intro Q E0 listed a w' hI hM hk haft K hK
        obtain ⟨b0, b1, b2, b3, b4, b5, b6, b7, b8, b9, b10, b11, b12, b13, b14, b15, b16, b17, x5, x19, x22, x26, x27, hh, r0, r1, hl, ha, HF⟩ := hI
        subst hl; subst ha
        obtain ⟨N0, P0_0, P0_1, P0_2, N1, P1_0, NH, PH, Z, HS⟩ := HF.out
        clear HF
        have hk' : b7 = false := hk
        subst hk'
        clear hk
        obtain rfl : b8 = false := by cases b8 with | false => rfl | true => exact absurd (hM 8 7 rfl rfl) Bool.false_ne_true
        obtain rfl : b9 = false := by cases b9 with | false => rfl | true => exact absurd (hM 9 8 rfl rfl) Bool.false_ne_true
        obtain rfl : b10 = false := by cases b10 with | false => rfl | true => exact absurd (hM 10 9 rfl rfl) Bool.false_ne_true
        obtain rfl : b15 = false := by cases b15 with | false => rfl | true => exact absurd (hM 15 10 rfl rfl) Bool.false_ne_true
        obtain rfl : b17 = false := by cases b17 with | false => rfl | true => exact absurd (hM 17 7 rfl rfl) Bool.false_ne_true
        obtain rfl : b6 = true := haft ⟨6, .data⟩ (by simp) rfl
        clear haft
        have hSr := HS rfl
        have hBl := hSr.bel
        obtain ⟨q0, q1, q2, q3⟩ := HK.out w' hBl
        go_simp
        exact hK _ _ ⟨b0, b1, b2, b3, b4, b5, true, true, false, false, false, b11, b12, b13, b14, false, b16, false, _, _, _, _, _, _, _, _, rfl, rfl, Lib.hid ⟨N0, P0_0, P0_1, nofun, N1, nofun, NH, PH, nofun, fun _ => hSr⟩⟩
      refine StepsU.cons ?_ ?_
      · intro Q E0 listed a w' hI hM hk haft K hK
        obtain ⟨b0, b1, b2, b3, b4, b5, b6, b7, b8, b9, b10, b11, b12, b13, b14, b15, b16, b17, x5, x19, x22, x26, x27, hh, r0, r1, hl, ha, HF⟩ := hI
        subst hl; subst ha
        obtain ⟨N0, P0_0, P0_1, P0_2, N1, P1_0, NH, PH, Z, HS⟩ := HF.out
        clear HF
        have hk' : b8 = false := hk
        subst hk'
        clear hk
        obtain rfl : b9 = false := by cases b9 with | false => rfl | true => exact absurd (hM 9 8 rfl rfl) Bool.false_ne_true
        obtain rfl : b10 = false := by cases b10 with | false => rfl | true => exact absurd (hM 10 9 rfl rfl) Bool.false_ne_true
        obtain rfl : b15 = false := by cases b15 with | false => rfl | true => exact absurd (hM 15 10 rfl rfl) Bool.false_ne_true
        obtain rfl : b17 = false := by cases b17 with | false => rfl | true => exact absurd (hM 17 8 rfl rfl) Bool.false_ne_true
        obtain rfl : b7 = true := haft ⟨7, .data⟩ (by simp) rfl
        obtain rfl : b6 = true := hM 7 6 rfl rfl
        clear haft
        have hSr := HS rfl
        have hBl := hSr.bel
        obtain ⟨q0, q1, q2, q3⟩ := HK.out w' hBl
        go_simp
        exact hK _ _ ⟨b0, b1, b2, b3, b4, b5, true, true, true, false, false, b11, b12, b13, b14, false, b16, false, _, _, _, _, _, _, _, _, rfl, rfl, Lib.hid ⟨N0, P0_0, P0_1, nofun, N1, nofun, NH, PH, nofun, fun _ => hSr⟩⟩
      refine StepsU.cons ?_ ?_
      · intro Q E0 listed a w' hI hM hk haft K hK
        obtain ⟨b0, b1, b2, b3, b4, b5, b6, b7, b8, b9, b10, b11, b12, b13, b14, b15, b16, b17, x5, x19, x22, x26, x27, hh, r0, r1, hl, ha, HF⟩ := hI
        subst hl; subst ha
        obtain ⟨N0, P0_0, P0_1, P0_2, N1, P1_0, NH, PH, Z, HS⟩ := HF.out
        clear HF
        have hk' : b9 = false := hk
        subst hk'
        clear hk
        obtain rfl : b10 = false := by cases b10 with | false => rfl | true => exact absurd (hM 10 9 rfl rfl) Bool.false_ne_true
        obtain rfl : b15 = false := by cases b15 with | false => rfl | true => exact absurd (hM 15 10 rfl rfl) Bool.false_ne_true
        obtain rfl : b17 = false := by cases b17 with | false => rfl | true => exact absurd (hM 17 9 rfl rfl) Bool.false_ne_true
        obtain rfl : b8 = true := haft ⟨8, .data⟩ (by simp) rfl
        obtain rfl : b7 = true := hM 8 7 rfl rfl
        obtain rfl : b6 = true := hM 7 6 rfl rfl
        clear haft
        have hSr := HS rfl
        have hBl := hSr.bel
        obtain ⟨q0, q1, q2, q3⟩ := HK.out w' hBl
        obtain rfl := N1 rfl
        go_simp
        exact hK _ _ ⟨b0, b1, b2, b3, b4, b5, true, true, true, true, false, b11, b12, b13, b14, false, b16, false, _, _, _, .slice (some ⟨w'.heap.size, 0, none⟩) 1 1, _, _, _, some ⟨40, 3, .slice (some ⟨w'.heap.size, 0, none⟩) 1 1, 1, [Value.int .i64 0, Value.int .i64 0, Value.int .i64 D.states]⟩, rfl, rfl, Lib.hid ⟨N0, P0_0, P0_1, nofun, nofun, fun _ => ⟨w'.heap.size, 1, rfl, rfl⟩, NH, PH, nofun, fun _ => Sr.call [r0] [] ⟨40, 3, .slice (some ⟨w'.heap.size, 0, none⟩) 1 1, 1, [Value.int .i64 0, Value.int .i64 0, Value.int .i64 D.states]⟩ hSr ((Below.refl _ _).alloc (Nat.le_refl _) _) (ownLit (n := 1) [Value.int .i64 0, Value.int .i64 0, Value.int .i64 D.states] (Nat.le_refl _) (by omega) rfl)⟩⟩
      refine StepsU.cons ?_ ?_
      · intro Q E0 listed a w' hI hM hk haft K hK
        obtain ⟨b0, b1, b2, b3, b4, b5, b6, b7, b8, b9, b10, b11, b12, b13, b14, b15, b16, b17, x5, x19, x22, x26, x27, hh, r0, r1, hl, ha, HF⟩ := hI
        subst hl; subst ha
        obtain ⟨N0, P0_0, P0_1, P0_2, N1, P1_0, NH, PH, Z, HS⟩ := HF.out
        clear HF
        have hk' : b10 = false := hk
        subst hk'
        clear hk
        obtain rfl : b15 = false := by cases b15 with | false => rfl | true => exact absurd (hM 15 10 rfl rfl) Bool.false_ne_true
        obtain rfl : b17 = false := by cases b17 with | false => rfl | true => exact absurd (hM 17 10 rfl rfl) Bool.false_ne_true
        obtain rfl : b5 = true := haft ⟨5, .data⟩ (by simp) rfl
        obtain rfl : b9 = true := haft ⟨9, .data⟩ (by simp) rfl
        obtain rfl : b2 = true := hM 5 2 rfl rfl
        obtain rfl : b4 = true := hM 5 4 rfl rfl
        obtain rfl : b8 = true := hM 9 8 rfl rfl
        obtain rfl : b3 = true := hM 4 3 rfl rfl
        obtain rfl : b7 = true := hM 8 7 rfl rfl
        obtain rfl : b6 = true := hM 7 6 rfl rfl
        clear haft
        obtain ⟨g5, c5, rfl, hr5⟩ := P0_1 rfl
        obtain rfl := hr5 rfl
        obtain ⟨g9, c9, rfl, rfl⟩ := P1_0 rfl
        have hSr := HS rfl
        have hBl := hSr.bel
        obtain ⟨q0, q1, q2, q3⟩ := HK.out w' hBl
        have hrow := hSr.own _ (List.mem_append_right [] (List.mem_cons_self ..))
        refine stepAppX elMove (by decide) rfl (.tmp 22) (.tmp 26) rfl w3.heap.size g5 (D.moves.length) c5 (1) _ _ [Value.int .i64 0, Value.int .i64 0, Value.int .i64 D.states] w' rfl rfl hrow (((ownFl (hSr.own _ (List.mem_cons_of_mem _ (List.mem_cons_self ..)))).fl)) (rfl) (by simp [Value.oneCell']) (by have := HM.out; omega) hBl.size ?_
        intro g' c' w1 hoc hgc hat
        exact hK _ _ ⟨b0, b1, true, true, true, true, true, true, true, true, true, b11, b12, b13, b14, false, b16, false, _, _, _, _, .slice (some ⟨g', 0, none⟩) ((D.moves.length + 1)) c', _, some ⟨40, 3, .slice (some ⟨g', 0, none⟩) ((D.moves.length + 1)) c', (D.moves.length + 1), ([] ++ cells3 D.moves ++ [Value.int .i64 0, Value.int .i64 0, Value.int .i64 D.states])⟩, _, rfl, rfl, Lib.hid ⟨nofun, fun h => let ⟨g, c, e, _⟩ := P0_0 h; ⟨g, c, e, nofun⟩, fun _ => ⟨_, _, rfl, nofun⟩, fun _ => ⟨g', c', rfl, rfl⟩, N1, fun _ => ⟨_, _, rfl, rfl⟩, NH, PH, nofun, fun _ => Sr.grow [] [_] ⟨40, 3, .slice (some ⟨g', 0, none⟩) ((D.moves.length + 1)) c', (D.moves.length + 1), ([] ++ cells3 D.moves ++ [Value.int .i64 0, Value.int .i64 0, Value.int .i64 D.states])⟩ hSr rfl rfl hgc hoc hat⟩⟩
      refine StepsU.cons ?_ ?_
      · intro Q E0 listed a w' hI hM hk haft K hK
        obtain ⟨b0, b1, b2, b3, b4, b5, b6, b7, b8, b9, b10, b11, b12, b13, b14, b15, b16, b17, x5, x19, x22, x26, x27, hh, r0, r1, hl, ha, HF⟩ := hI
        subst hl; subst ha
        obtain ⟨N0, P0_0, P0_1, P0_2, N1, P1_0, NH, PH, Z, HS⟩ := HF.out
        clear HF
        have hk' : b11 = false := hk
        subst hk'
        clear hk
        obtain rfl : b12 = false := by cases b12 with | false => rfl | true => exact absurd (hM 12 11 rfl rfl) Bool.false_ne_true
        obtain rfl : b15 = false := by cases b15 with | false => rfl | true => exact absurd (hM 15 12 rfl rfl) Bool.false_ne_true
        obtain rfl : b17 = false := by cases b17 with | false => rfl | true => exact absurd (hM 17 11 rfl rfl) Bool.false_ne_true
        clear haft
        have hSr := HS rfl
        have hBl := hSr.bel
        obtain ⟨q0, q1, q2, q3⟩ := HK.out w' hBl
        go_simp
        exact hK _ _ ⟨b0, b1, b2, b3, b4, b5, b6, b7, b8, b9, b10, true, false, b13, b14, false, b16, false, _, _, _, _, _, _, _, _, rfl, rfl, Lib.hid ⟨N0, P0_0, P0_1, P0_2, N1, P1_0, NH, PH, nofun, fun _ => hSr⟩⟩
      refine StepsU.cons ?_ ?_
      · intro Q E0 listed a w' hI hM hk haft K hK
        obtain ⟨b0, b1, b2, b3, b4, b5, b6, b7, b8, b9, b10, b11, b12, b13, b14, b15, b16, b17, x5, x19, x22, x26, x27, hh, r0, r1, hl, ha, HF⟩ := hI
        subst hl; subst ha
        obtain ⟨N0, P0_0, P0_1, P0_2, N1, P1_0, NH, PH, Z, HS⟩ := HF.out
        clear HF
        have hk' : b12 = false := hk
        subst hk'
        clear hk
        obtain rfl : b15 = false := by cases b15 with | false => rfl | true => exact absurd (hM 15 12 rfl rfl) Bool.false_ne_true
        obtain rfl : b17 = false := by cases b17 with | false => rfl | true => exact absurd (hM 17 12 rfl rfl) Bool.false_ne_true
        obtain rfl : b11 = true := haft ⟨11, .data⟩ (by simp) rfl
        clear haft
        have hSr := HS rfl
        have hBl := hSr.bel
        obtain ⟨q0, q1, q2, q3⟩ := HK.out w' hBl
        go_simp
        exact hK _ _ ⟨b0, b1, b2, b3, b4, b5, b6, b7, b8, b9, b10, true, true, b13, b14, false, b16, false, _, _, _, _, _, _, _, _, rfl, rfl, Lib.hid ⟨N0, P0_0, P0_1, P0_2, N1, P1_0, NH, PH, nofun, fun _ => hSr⟩⟩
      refine StepsU.cons ?_ ?_
      · intro Q E0 listed a w' hI hM hk haft K hK
        obtain ⟨b0, b1, b2, b3, b4, b5, b6, b7, b8, b9, b10, b11, b12, b13, b14, b15, b16, b17, x5, x19, x22, x26, x27, hh, r0, r1, hl, ha, HF⟩ := hI
        subst hl; subst ha
        obtain ⟨N0, P0_0, P0_1, P0_2, N1, P1_0, NH, PH, Z, HS⟩ := HF.out
        clear HF
        have hk' : b13 = false := hk
        subst hk'
        clear hk
        obtain rfl : b14 = false := by cases b14 with | false => rfl | true => exact absurd (hM 14 13 rfl rfl) Bool.false_ne_true
        obtain rfl : b15 = false := by cases b15 with | false => rfl | true => exact absurd (hM 15 14 rfl rfl) Bool.false_ne_true
        obtain rfl : b17 = false := by cases b17 with | false => rfl | true => exact absurd (hM 17 13 rfl rfl) Bool.false_ne_true
        clear haft
        have hSr := HS rfl
        have hBl := hSr.bel
        obtain ⟨q0, q1, q2, q3⟩ := HK.out w' hBl
        go_simp
        exact hK _ _ ⟨b0, b1, b2, b3, b4, b5, b6, b7, b8, b9, b10, b11, b12, true, false, false, b16, false, _, _, _, _, _, _, _, _, rfl, rfl, Lib.hid ⟨N0, P0_0, P0_1, P0_2, N1, P1_0, NH, PH, nofun, fun _ => hSr⟩⟩
      refine StepsU.cons ?_ ?_
      · intro Q E0 listed a w' hI hM hk haft K hK
        obtain ⟨b0, b1, b2, b3, b4, b5, b6, b7, b8, b9, b10, b11, b12, b13, b14, b15, b16, b17, x5, x19, x22, x26, x27, hh, r0, r1, hl, ha, HF⟩ := hI
        subst hl; subst ha
        obtain ⟨N0, P0_0, P0_1, P0_2, N1, P1_0, NH, PH, Z, HS⟩ := HF.out
        clear HF
        have hk' : b14 = false := hk
        subst hk'
        clear hk
        obtain rfl : b15 = false := by cases b15 with | false => rfl | true => exact absurd (hM 15 14 rfl rfl) Bool.false_ne_true
        obtain rfl : b17 = false := by cases b17 with | false => rfl | true => exact absurd (hM 17 14 rfl rfl) Bool.false_ne_true
        obtain rfl : b13 = true := haft ⟨13, .data⟩ (by simp) rfl
        clear haft
        have hSr := HS rfl
        have hBl := hSr.bel
        obtain ⟨q0, q1, q2, q3⟩ := HK.out w' hBl
        go_simp
        exact hK _ _ ⟨b0, b1, b2, b3, b4, b5, b6, b7, b8, b9, b10, b11, b12, true, true, false, b16, false, _, _, _, _, _, _, _, _, rfl, rfl, Lib.hid ⟨N0, P0_0, P0_1, P0_2, N1, P1_0, NH, PH, nofun, fun _ => hSr⟩⟩
      refine StepsU.cons ?_ ?_
      · intro Q E0 listed a w' hI hM hk haft K hK
        obtain ⟨b0, b1, b2, b3, b4, b5, b6, b7, b8, b9, b10, b11, b12, b13, b14, b15, b16, b17, x5, x19, x22, x26, x27, hh, r0, r1, hl, ha, HF⟩ := hI
        subst hl; subst ha
        obtain ⟨N0, P0_0, P0_1, P0_2, N1, P1_0, NH, PH, Z, HS⟩ := HF.out
        clear HF
        have hk' : b15 = false := hk
        subst hk'
        clear hk
        obtain rfl : b17 = false := by cases b17 with | false => rfl | true => exact absurd (hM 17 15 rfl rfl) Bool.false_ne_true
        obtain rfl : b1 = true := haft ⟨1, .data⟩ (by simp) rfl
        obtain rfl : b10 = true := haft ⟨10, .data⟩ (by simp) rfl
        obtain rfl : b12 = true := haft ⟨12, .data⟩ (by simp) rfl
        obtain rfl : b14 = true := haft ⟨14, .data⟩ (by simp) rfl
        obtain rfl : b0 = true := hM 1 0 rfl rfl
        obtain rfl : b5 = true := hM 10 5 rfl rfl
        obtain rfl : b9 = true := hM 10 9 rfl rfl
        obtain rfl : b11 = true := hM 12 11 rfl rfl
        obtain rfl : b13 = true := hM 14 13 rfl rfl
        obtain rfl : b2 = true := hM 5 2 rfl rfl
        obtain rfl : b4 = true := hM 5 4 rfl rfl
        obtain rfl : b8 = true := hM 9 8 rfl rfl
        obtain rfl : b3 = true := hM 4 3 rfl rfl
        obtain rfl : b7 = true := hM 8 7 rfl rfl
        obtain rfl : b6 = true := hM 7 6 rfl rfl
        clear haft
        obtain ⟨g10, c10, rfl, rfl⟩ := P0_2 rfl
        obtain ⟨g9, c9, rfl, rfl⟩ := P1_0 rfl
        have hSr := HS rfl
        have hBl := hSr.bel
        obtain ⟨q0, q1, q2, q3⟩ := HK.out w' hBl
        go_simp
        exact hK _ _ ⟨true, true, true, true, true, true, true, true, true, true, true, true, true, true, true, true, b16, false, _, _, _, _, _, _, _, _, rfl, rfl, Lib.hid ⟨N0, P0_0, P0_1, fun _ => ⟨_, _, rfl, rfl⟩, N1, fun _ => ⟨_, _, rfl, rfl⟩, NH, PH, nofun, fun _ => hSr⟩⟩
      refine StepsU.cons ?_ ?_
      · intro Q E0 listed a w' hI hM hk haft K hK
        obtain ⟨b0, b1, b2, b3, b4, b5, b6, b7, b8, b9, b10, b11, b12, b13, b14, b15, b16, b17, x5, x19, x22, x26, x27, hh, r0, r1, hl, ha, HF⟩ := hI
        subst hl; subst ha
        obtain ⟨N0, P0_0, P0_1, P0_2, N1, P1_0, NH, PH, Z, HS⟩ := HF.out
        clear HF
        have hk' : b16 = false := hk
        subst hk'
        clear hk
        obtain rfl : b17 = false := by cases b17 with | false => rfl | true => exact absurd (hM 17 16 rfl rfl) Bool.false_ne_true
        clear haft
        have hSr := HS rfl
        have hBl := hSr.bel
        obtain ⟨q0, q1, q2, q3⟩ := HK.out w' hBl
        obtain rfl := NH rfl
        go_simp
        exact hK _ _ ⟨b0, b1, b2, b3, b4, b5, b6, b7, b8, b9, b10, b11, b12, b13, b14, b15, true, false, .pointer (some ⟨w'.heap.size, 0, none⟩), _, _, _, _, some (w'.heap.size, .cells #[.int .i64 0, .slice none 0 0, .slice none 0 0, .slice none 0 0] 36 (0, 0)), _, _, rfl, rfl, Lib.hid ⟨N0, P0_0, P0_1, P0_2, N1, P1_0, nofun, fun _ _ => ⟨_, rfl, rfl⟩, nofun, fun _ => hSr.hdr _ _⟩⟩
      refine StepsU.cons ?_ ?_
      · intro Q E0 listed a w' hI hM hk haft K hK
        obtain ⟨b0, b1, b2, b3, b4, b5, b6, b7, b8, b9, b10, b11, b12, b13, b14, b15, b16, b17, x5, x19, x22, x26, x27, hh, r0, r1, hl, ha, HF⟩ := hI
        subst hl; subst ha
        obtain ⟨N0, P0_0, P0_1, P0_2, N1, P1_0, NH, PH, Z, HS⟩ := HF.out
        clear HF
        have hk' : b17 = false := hk
        subst hk'
        clear hk
        obtain rfl : b16 = true := haft ⟨16, .data⟩ (by simp) rfl
        obtain rfl : b15 = true := haft ⟨15, .data⟩ (by simp) rfl
        obtain rfl : b0 = true := haft ⟨0, .phase⟩ (by simp) rfl
        obtain rfl : b1 = true := haft ⟨1, .phase⟩ (by simp) rfl
        obtain rfl : b2 = true := haft ⟨2, .phase⟩ (by simp) rfl
        obtain rfl : b3 = true := haft ⟨3, .phase⟩ (by simp) rfl
        obtain rfl : b4 = true := haft ⟨4, .phase⟩ (by simp) rfl
        obtain rfl : b5 = true := haft ⟨5, .phase⟩ (by simp) rfl
        obtain rfl : b6 = true := haft ⟨6, .phase⟩ (by simp) rfl
        obtain rfl : b7 = true := haft ⟨7, .phase⟩ (by simp) rfl
        obtain rfl : b8 = true := haft ⟨8, .phase⟩ (by simp) rfl
        obtain rfl : b9 = true := haft ⟨9, .phase⟩ (by simp) rfl
        obtain rfl : b10 = true := haft ⟨10, .phase⟩ (by simp) rfl
        obtain rfl : b11 = true := haft ⟨11, .phase⟩ (by simp) rfl
        obtain rfl : b12 = true := haft ⟨12, .phase⟩ (by simp) rfl
        obtain rfl : b13 = true := haft ⟨13, .phase⟩ (by simp) rfl
        obtain rfl : b14 = true := haft ⟨14, .phase⟩ (by simp) rfl
        clear haft
        obtain ⟨gh, rfl, rfl⟩ := PH rfl rfl
        obtain ⟨g9, c9, rfl, rfl⟩ := P1_0 rfl
        obtain ⟨g10, c10, rfl, rfl⟩ := P0_2 rfl
        have hSr := HS rfl
        have hBl := hSr.bel
        obtain ⟨q0, q1, q2, q3⟩ := HK.out w' hBl
        obtain ⟨hh1, hh2, hh3⟩ := hSr.hd _ _ rfl
        obtain ⟨e0, e1, e2, e3⟩ := blk4 hh1
        have g1 := blkFz hh1
        go_simp
        exact hK _ _ ⟨true, true, true, true, true, true, true, true, true, true, true, true, true, true, true, true, true, true, _, _, _, _, _, _, _, _, rfl, rfl, Lib.hid ⟨N0, P0_0, P0_1, fun _ => ⟨_, _, rfl, rfl⟩, N1, fun _ => ⟨_, _, rfl, rfl⟩, NH, fun _ => nofun, fun _ => ⟨gh, g10, c10, rfl, nvBel hBl hh2, nvRd HN3.out hBl hSr.own (fun r hr => hh3 r hr) hh2, blk4s hh1⟩, nofun⟩⟩
      exact StepsU.nil
    · intro G0 hG0 listed a w' hI hall
      obtain ⟨b0, b1, b2, b3, b4, b5, b6, b7, b8, b9, b10, b11, b12, b13, b14, b15, b16, b17, x5, x19, x22, x26, x27, hh, r0, r1, hl, ha, HF⟩ := hI
      subst hl; subst ha
      obtain rfl : b0 = true := hall 0 (by decide)
      obtain rfl : b1 = true := hall 1 (by decide)
      obtain rfl : b2 = true := hall 2 (by decide)
      obtain rfl : b3 = true := hall 3 (by decide)
      obtain rfl : b4 = true := hall 4 (by decide)
      obtain rfl : b5 = true := hall 5 (by decide)
      obtain rfl : b6 = true := hall 6 (by decide)
      obtain rfl : b7 = true := hall 7 (by decide)
      obtain rfl : b8 = true := hall 8 (by decide)
      obtain rfl : b9 = true := hall 9 (by decide)
      obtain rfl : b10 = true := hall 10 (by decide)
      obtain rfl : b11 = true := hall 11 (by decide)
      obtain rfl : b12 = true := hall 12 (by decide)
      obtain rfl : b13 = true := hall 13 (by decide)
      obtain rfl : b14 = true := hall 14 (by decide)
      obtain rfl : b15 = true := hall 15 (by decide)
      obtain rfl : b16 = true := hall 16 (by decide)
      obtain rfl : b17 = true := hall 17 (by decide)
      exact hG0 _ _ _ _ _ _ (HF.out.2.2.2.2.2.2.2.2.1 rfl)
    · intro x5 x19 x22 x26 x27 w' hFin
      obtain ⟨g, g2, c, rfl, hb, hr, hh⟩ := hFin
      have HBx := Lib.hid (HB3.out.trans (hb.mono HB3.out.size))
      obtain ⟨y0, y1, y2, y3⟩ := blk4 hh
      have HR := Lib.hid hr
      have hml : (D.moves ++ [(0, 0, D.states)]).length = D.moves.length + 1 := by simp
      clear hh hb hr HK
      go_wp2_with fail
      refine (NfaValid_c _ _ _ ⟨D.states, D.moves ++ [(0, 0, D.states)], D.firsts, D.ends⟩ w' HR.out).mono ?_
      rintro e w5 ⟨b5, rfl, hb5, hv5⟩
      obtain rfl : b5 = false := by cases b5 with | false => rfl | true => exact absurd (hbT hv5) (bad_no D _ rfl rfl)
      have HB5 := Lib.hid (HBx.out.trans (hb5.mono HBx.out.size))
      clear hv5 hb5 y0 y1 y2 y3 hml
      go_wp2_with fail
      refine (NfaValid_c _ _ _ ⟨0, [], [], []⟩ w5 (nfa_nil w5)).mono ?_
      rintro e w6 ⟨b6, rfl, hb6, hv6⟩
      obtain rfl : b6 = true := hv6.out.2 ok_nil
      have HB6 := Lib.hid (HB5.out.trans (hb6.mono HB5.out.size))
      clear hv6 hb6
      go_wp2_with fail
      refine (alive_c w6).mono ?_
      rintro e w7 ⟨b7, rfl, rfl, hv7⟩
      obtain rfl : b7 = true := hv7.out.2 trivial
      clear hv7
      go_wp2
      go_ret
      exact ⟨rfl, HB6.out⟩
end Go.Proofs.Ytbcjhiponbfbnaa.fnNfaValid
