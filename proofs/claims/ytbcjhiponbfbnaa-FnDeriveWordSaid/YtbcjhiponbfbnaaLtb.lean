/- l3Table: the walk; the table's shape alone. -/
import Derived.BigQuiet
import Derived.Deep.DeepMust
import Derived.Deep.CutRange
import Derived.Deep.CutBlock
import Derived.Test.YtbcjhiponbfbnaaTbl
set_option linter.unusedSimpArgs false
set_option linter.unusedVariables false
set_option linter.unusedSectionVars false
namespace Go.Proofs.Ytbcjhiponbfbnaa
open Go.RowKit
set_option maxRecDepth 100000
variable {S T : Nat → Prop}
theorem TB.rd {base N gT k cT : Nat} {tl : List Value} {w : World} (h : TB base N tl (.slice (some ⟨gT, 0, none⟩) k cT) w) (hk : tl.length = k) {A i j : Nat} (hA : A < k) (hi : i < N) (hj : j < N) :
    ∃ g1 c1 g2 c2 x, w.cell? ⟨gT, A, none⟩ = some (.slice (some ⟨g1, 0, none⟩) N c1) ∧ w.cell? ⟨g1, i, none⟩ = some (.slice (some ⟨g2, 0, none⟩) N c2) ∧ w.cell? ⟨g2, j, none⟩ = some (.bool x) := by
  obtain ⟨g, c, g1, c1, g2, c2, x, e, h1, h2, h3⟩ := h.cell (A := A) (by omega) hi hj
  injection e with e _ _
  injection e with e
  injection e with e _ _
  subst e
  exact ⟨g1, c1, g2, c2, x, h1, h2, h3⟩
/-- A table was made. -/
def RTB (L N : Nat) (w : World) (e : Ending) (w' : World) : Prop := ∃ (vT : Value) (tl : List Value), e = .returned vT ∧ Below w.heap.size w w' ∧ Hid (tl.length = L) ∧ Hid (TB w.heap.size N tl vT w')
/-- What a part needs to its left. -/
def NeedK (x : Int) (k : Nat) (A B : Int) : Prop := ((x = 7 ∨ x = 8) → 0 ≤ A ∧ A < k) ∧ ((x = 4 ∨ x = 5 ∨ x = 6) → (0 ≤ A ∧ A < k) ∧ 0 ≤ B ∧ B < k)
theorem need_two {x y : Int} (h : pOk x y) (n : pNeeds x = 2) : x = 4 ∨ x = 5 ∨ x = 6 := by
  unfold pNeeds at n
  split at n
  · omega
  · split at n
    · omega
    · unfold pOk at h; omega
theorem need_not {x : Int} (n : pNeeds x ≠ 2) : ¬ (x = 4 ∨ x = 5 ∨ x = 6) := by
  rintro (rfl | rfl | rfl) <;> exact n rfl
set_option maxHeartbeats 8000000 in
theorem l3Table_c (v : Value) (t : Re) (ht : t.wf) (s : ByteArray) (w : World) (h : Pairs S w v t.flat) (hl : t.flat.length ≤ 60) (hs : s.size ≤ 60) : Calls Try.prog 119 #[v, .string s] w (RTB t.flat.length (s.size + 1) w) := by
  obtain ⟨a0, cap0, rfl, _⟩ := h.shape
  have H := Lib.hid h; clear h
  have HP := Lib.hid (Re.parts ht)
  have HU := Lib.hid (Re.flat_under t ht)
  have HT := Lib.hid ht; clear ht
  obtain ⟨L, hL⟩ : ∃ L, L = t.flat.length := ⟨_, rfl⟩
  have HL := Lib.hid hL
  rw [← hL] at hl ⊢
  clear hL
  have hW0 := Below.refl w.heap.size w
  go_enter Try.func119, Try.ntmps119
  go_wp2_with fail
  go_loopw [6, 7] (fun vT i wr => ∃ (k gT cT : Nat) (tl : List Value), k ≤ L ∧ i = .int .i64 k ∧ vT = .slice (some ⟨gT, 0, none⟩) k cT ∧ Hid (tl.length = k) ∧ Hid (TB w.heap.size (s.size + 1) tl vT wr) ∧ Hid (Below w.heap.size w wr)) (fun _ i _ => L - (intOf i).toNat)
  case atStart => exact ⟨0, _, _, [], by omega, rfl, rfl, rfl, Lib.hid ⟨ownLit (n := 0) [] (Nat.le_refl _) (by omega) rfl, nofun⟩, Lib.hid ((Below.refl _ _).alloc (Nat.le_refl _) _)⟩
  case round =>
    clear hW0
    obtain ⟨k, gT, cT, tl, hk, rfl, rfl, htl, hT, hb⟩ := hrel
    by_cases hlt : k < L
    · have hkI : (k : Int) < (L : Int) := by omega
      have hkf : k < t.flat.length := by rw [← HL.out]; exact hlt
      have hHk : Hid (Pairs S wr (.slice a0 t.flat.length cap0) t.flat) := Lib.hid (H.out.stay (kpB hb.out))
      obtain ⟨bb, off, rfl, c0, c1⟩ := hHk.out.at hkf
      have hok := HP.out _ (List.getElem_mem hkf)
      have hun := HU.out k hkf
      have HC : Hid (∀ w', Below wr.heap.size wr w' → w'.cell? ⟨bb, off + k * 2, none⟩ = some (.int .i64 t.flat[k].1) ∧ w'.cell? ⟨bb, off + k * 2 + 1, none⟩ = some (.int .i64 t.flat[k].2)) :=
        Lib.hid fun w' hb' => ⟨kpB (S := fun _ => True) hb' _ _ trivial c0, kpB (S := fun _ => True) hb' _ _ trivial c1⟩
      generalize t.flat[k] = z at *
      clear hkf
      obtain ⟨x, y⟩ := z
      dsimp only at c0 c1 hok hun HC
      have HOK := Lib.hid hok; have HUN := Lib.hid hun
      clear hok hun hHk
      go_wp2_with fail
      refine (sPartNeeds_c x y wr).mono ?_
      rintro e w1 ⟨n, rfl, hb1, hn⟩
      have Hn : Hid (n = pNeeds x) := Lib.hid (by rcases hn.out with h | h; exact h.2.1; exact absurd HOK.out h.1)
      have hn02 : n = 0 ∨ n = 1 ∨ n = 2 := by rcases hn.out with h | h; omega; exact absurd HOK.out h.1
      clear hn
      have hB1 := Lib.hid (hb.out.trans (hb1.mono hb.out.size))
      have HB1 := Lib.hid hb1
      clear hb1 c0 c1
      go_upto_if 33 with fail
      go_cut [8, 9] from 34 to 40 (fun s8 s9 wx => ∃ (A B : Int), s8 = .int .i64 A ∧ s9 = .int .i64 B ∧ Hid (NeedK x k A B) ∧ Hid (Below wr.heap.size wr wx))
      case first =>
        by_cases hn2 : n = 2
        · subst hn2
          have hx := need_two HOK.out (by have := Hn.out; omega)
          obtain ⟨pre, rest, b, hbw, hfl, hpk, hp1⟩ := HUN.out.2 hx
          have hkk : (k : Int) - 1 = (pre.length + b.flat.length : Nat) - 1 := by omega
          have Hfl := Lib.hid hfl; have Hpk := Lib.hid hpk; have Hkk := Lib.hid hkk; have Hbw := Lib.hid hbw
          have hp60 : pre.length ≤ 60 := by have := Hpk.out; omega
          clear hfl hpk hkk hbw Hn hn02
          go_wp2_with fail
          refine (l2Start_c (S := S) _ pre rest b Hbw.out _ w1 (by have := H.out.stay (kpB hB1.out); rw [← HL.out] at this; rw [← Hfl.out]; exact this) Hkk.out (by rw [← Hfl.out, ← HL.out]; omega)).mono ?_
          rintro e w2 ⟨m, rfl, hb2, hm⟩
          obtain rfl := hm.out
          have HB2 := Lib.hid (HB1.out.trans (hb2.mono HB1.out.size))
          clear hm hb2
          go_wp2
          go_meet
          exact ⟨_, _, rfl, rfl, Lib.hid ⟨fun h => by omega, fun _ => by have := Hpk.out; have := b.flat_pos; omega⟩, HB2⟩
        · have hn2' : (n == 2) = false := by simpa using hn2
          have hA : Hid (NeedK x k ((k : Int) - 1) (-1)) := Lib.hid ⟨fun h => by have := HUN.out.1 h; omega, fun h => absurd h (need_not (by have := Hn.out; omega))⟩
          clear Hn
          rcases hn02 with rfl | rfl | rfl
          · go_wp2_with fail
            go_meet
            exact ⟨_, _, rfl, rfl, hA, HB1⟩
          · go_wp2_with fail
            go_meet
            exact ⟨_, _, rfl, rfl, hA, HB1⟩
          · exact absurd rfl hn2
      case rest =>
        obtain ⟨A, B, rfl, rfl, HN, hbx⟩ := hcut
        clear Hn hn02 hB1 HB1
        go_wp2_with fail
        obtain ⟨wk, hwk⟩ : ∃ x, x = wc.heap.size := ⟨_, rfl⟩
        have hLB0 : Hid (LB wk (s.size + 1) [] (.slice (some ⟨wc.heap.size, 0, none⟩) 0 0) (wc.alloc (.cells #[] 47))) := Lib.hid ⟨ownLit (n := 0) [] (by omega) (by omega) rfl, nofun⟩
        have hBW0 : Hid (Below wk wc (wc.alloc (.cells #[] 47))) := Lib.hid ((Below.refl _ _).alloc (by omega) _)
        have Hwk := Lib.hid hwk
        have HTc := Lib.hid (hT.out.stay hbx.out)
        have HC2 : Hid (∀ w', Below wk wc w' → w'.cell? ⟨bb, off + k * 2, none⟩ = some (.int .i64 x) ∧ w'.cell? ⟨bb, off + k * 2 + 1, none⟩ = some (.int .i64 y)) :=
          Lib.hid fun w' hb' => HC.out w' (hbx.out.trans (hb'.mono (by have := hbx.out.size; omega)))
        have HBw := Lib.hid (hb.out.trans (hbx.out.mono hb.out.size))
        clear hwk hT HC hbx hb
        go_loopw [10, 11] (fun vL i wz => ∃ (q : Nat) (ls : List Value), q ≤ s.size + 1 ∧ i = .int .i64 q ∧ Hid (ls.length = q) ∧ Hid (LB wk (s.size + 1) ls vL wz) ∧ Hid (Below wk wc wz)) (fun _ i _ => s.size + 1 - (intOf i).toNat)
        case atStart => exact ⟨0, [], by omega, rfl, rfl, hLB0, hBW0⟩
        case round =>
          clear hLB0 hBW0
          obtain ⟨q, ls, hq, rfl, hls, hLB, hB⟩ := hrel
          have hts := hLB.out.own
          obtain ⟨aL, cL, hvL, _⟩ := (ownFl hts).shape
          rw [hls.out] at hvL
          subst hvL
          clear hts
          have hws : wk ≤ wr.heap.size := by have := hB.out.size; have := Hwk.out; omega
          by_cases hqs : q ≤ s.size
          · have hqI : (q : Int) ≤ (s.size : Int) := by omega
            have hq9 : q ≤ 1000000000 := by omega
            go_wp2_with (first
              | (at_make; refine makeRow ezBool (by decide) rfl (.tmp 49) (.tmp 49) rfl (s.size + 1) _ rfl rfl (by omega) ?_
                 intro w4 hr4 hb4 hz4
                 have HS4 : Hid (SetB wk (s.size + 1) (.slice (some ⟨wr.heap.size, 0, none⟩) (s.size + 1) (s.size + 1)) w4) := Lib.hid ⟨List.replicate (s.size + 1) false, by simp, by
                   have := rowOwn (base := wk) hr4.out (n := s.size + 1) (by simp) hws (by omega)
                   unfold OwnB
                   rw [List.length_replicate]
                   exact this⟩
                 have HL4 := Lib.hid (hLB.out.stay hb4)
                 have hown : Hid (w4.ownsRow wk 47 1 (.slice aL q cL) q ls) := Lib.hid (by have := HL4.out.own; rw [hls.out] at this; exact this)
                 have hB4 := Lib.hid (hB.out.trans (hb4.mono hws))
                 have hbs : wk ≤ w4.heap.size := Nat.le_trans hws hb4.size
                 clear hr4 hz4)
              | (at_builtin; refine appOne elBools (by decide) rfl (.tmp 47) (.tmp 51) rfl wk _ q ls [.slice (some ⟨wr.heap.size, 0, none⟩) (s.size + 1) (s.size + 1)] w4 rfl rfl hown.out rfl (by simp [Value.oneCell']) hq9 hbs ?_
                 intro v5 w5 ho5 hg5' _
                 have hg5 := grownTrans (grownBel ((Below.refl w4.heap.size w4).alloc (Nat.le_refl _) _)) hg5'
                 clear hg5'))
            have hLB5 := Lib.hid (LB.add HL4.out HS4.out hg5 (by rw [hls.out]; exact ho5))
            have hB5 := Lib.hid (hB4.out.grown hg5 hbs (fun b hb' => (World.ownsRow.lt hown.out b hb').1))
            have hls5 : Hid ((ls ++ [Value.slice (some ⟨wr.heap.size, 0, none⟩) (s.size + 1) (s.size + 1)]).length = q + 1) := Lib.hid (by rw [List.length_append, hls.out]; rfl)
            go_roundw
            case rel => exact ⟨q + 1, _, by omega, by go_num, hls5, hLB5, hB5⟩
            case measure => simp [intOf]; omega
          · obtain rfl : q = s.size + 1 := by omega
            clear hq hqs
            go_wp2_with fail
            obtain ⟨g, cg, e, hgb, _⟩ := own_some hLB.out.own (by rw [hls.out]; omega)
            injection e with e1 e2 e3
            subst e1 e3
            clear e2 hws
            go_loopw [12, 13, 14, 15, 16] (fun i _ _ _ _ wz => ∃ I : Int, -1 ≤ I ∧ I ≤ s.size ∧ i = .int .i64 I ∧ Hid (LB wk (s.size + 1) ls (.slice (some ⟨g, 0, none⟩) (s.size + 1) cL) wz) ∧ Hid (Below wk wc wz)) (fun i _ _ _ _ _ => (intOf i + 1).toNat)
            case atStart => exact ⟨s.size, by omega, by omega, rfl, hLB, hB⟩
            case round =>
              clear hLB hB
              obtain ⟨I, hI1, hI2, rfl, hLB, hB⟩ := hrel
              by_cases hI : 0 ≤ I
              · obtain ⟨i, rfl⟩ := Int.eq_ofNat_of_zero_le hI
                clear hI1
                have his : i ≤ s.size := by omega
                go_wp2_with fail
                go_loopw [13, 14, 15, 16] (fun j _ _ _ wz => ∃ J : Nat, i ≤ J ∧ J ≤ s.size + 1 ∧ j = .int .i64 J ∧ Hid (LB wk (s.size + 1) ls (.slice (some ⟨g, 0, none⟩) (s.size + 1) cL) wz) ∧ Hid (Below wk wc wz)) (fun j _ _ _ _ => s.size + 1 - (intOf j).toNat)
                case atStart => exact ⟨i, by omega, by omega, rfl, hLB, hB⟩
                case round =>
                  clear hLB hB
                  obtain ⟨J, hJi, hJ1, rfl, hLB, hB⟩ := hrel
                  have hws : wk ≤ wr.heap.size := by have := hB.out.size; have := Hwk.out; omega
                  by_cases hJ : J ≤ s.size
                  · have hJI : (J : Int) ≤ (s.size : Int) := by omega
                    obtain ⟨d0, d1⟩ := HC2.out wr hB.out
                    go_upto_block 8 with fail
                    go_cut [14, 15, 16] from 69 to 220 (fun b s15 s16 wx => ∃ z : Bool, b = .bool z ∧ Hid (Below wr.heap.size wr wx))
                    case first =>
                      have HTr : Hid (TB w.heap.size (s.size + 1) tl (.slice (some ⟨gT, 0, none⟩) k cT) wr) := Lib.hid (HTc.out.stay (by have := hB.out; rw [Hwk.out] at this; exact this))
                      have hi1 : i < s.size + 1 := by omega
                      have hJ1' : J < s.size + 1 := by omega
                      have hR0 : Hid (Below wr.heap.size wr wr) := Lib.hid (Below.refl _ _)
                      clear hB hJ1
                      rcases pNeeds_cases x y HOK.out with ⟨rfl, -⟩ | ⟨rfl, -⟩ | ⟨rfl, -⟩ | ⟨rfl, -⟩ | ⟨rfl, -⟩ | ⟨rfl, -⟩ | ⟨rfl, -⟩ | ⟨rfl, -⟩
                      · as_aux_lemma =>
                        go_wp2_with fail
                        go_meet
                        exact ⟨false, rfl, hR0⟩
                      · as_aux_lemma =>
                        go_wp2_with fail
                        go_meet
                        exact ⟨_, rfl, hR0⟩
                      · as_aux_lemma =>
                        by_cases hji : J = i + 1
                        · subst hji
                          have hil : i < s.size := by omega
                          have hiI : (i : Int) < (s.size : Int) := by omega
                          go_wp2_with fail
                          go_quiet (fail)
                          go_wp2
                          go_meet
                          exact ⟨_, rfl, Lib.hid (belDrewN (Below.refl _ _) _)⟩
                        · have hd : decide ((J : Int) = (i : Int) + 1) = false := by simp; omega
                          have hd2 : ((J : Int) == (i : Int) + 1) = false := by simp; omega
                          have hd3 : ¬ (J : Int) = (i : Int) + 1 := by omega
                          go_wp2_with fail
                          go_quiet (fail)
                          go_wp2
                          go_meet
                          exact ⟨_, rfl, Lib.hid (belDrewN (Below.refl _ _) _)⟩
                      · as_aux_lemma =>
                        obtain ⟨⟨hA0, hA1⟩, hB0, hB1⟩ := HN.out.2 (by decide)
                        obtain ⟨An, rfl⟩ := Int.eq_ofNat_of_zero_le hA0
                        obtain ⟨Bn, rfl⟩ := Int.eq_ofNat_of_zero_le hB0
                        have hAk : An < k := by omega
                        have hBk : Bn < k := by omega
                        clear hA0 hB0 d0 d1
                        go_wp2_with fail
                        go_loopw [14, 15] (fun b m wz => ∃ (z : Bool) (M : Nat), b = .bool z ∧ m = .int .i64 M ∧ i ≤ M ∧ M ≤ J + 1 ∧ Hid (Below wr.heap.size wr wz)) (fun _ m _ => J + 1 - (intOf m).toNat)
                        case atStart => exact ⟨false, i, rfl, rfl, by omega, by omega, hR0⟩
                        case round =>
                          clear hR0
                          obtain ⟨z, M, rfl, rfl, hM1, hM2, hbz⟩ := hrel
                          by_cases hM : M ≤ J
                          · have hMI : (M : Int) ≤ (J : Int) := by omega
                            have HTz := Lib.hid (HTr.out.stay hbz.out)
                            obtain ⟨g1, c1, g2, c2, u1, x1, x2, x3⟩ := HTz.out.rd htl.out hAk hi1 (show M < s.size + 1 by omega)
                            obtain ⟨g3, c3, g4, c4, u2, x4, x5, x6⟩ := HTz.out.rd htl.out hBk (show M < s.size + 1 by omega) hJ1'
                            cases z
                            · cases u1
                              · go_wp2_with fail
                                go_roundw
                                case rel => exact ⟨_, M + 1, rfl, by go_num, by omega, by omega, hbz⟩
                                case measure => simp [intOf]; omega
                              · go_wp2_with fail
                                go_roundw
                                case rel => exact ⟨_, M + 1, rfl, by go_num, by omega, by omega, hbz⟩
                                case measure => simp [intOf]; omega
                            · go_wp2_with fail
                              go_roundw
                              case rel => exact ⟨_, M + 1, rfl, by go_num, by omega, by omega, hbz⟩
                              case measure => simp [intOf]; omega
                          · go_wp2_with fail
                            go_meet
                            exact ⟨_, rfl, hbz⟩
                      · as_aux_lemma =>
                        obtain ⟨⟨hA0, hA1⟩, hB0, hB1⟩ := HN.out.2 (by decide)
                        obtain ⟨An, rfl⟩ := Int.eq_ofNat_of_zero_le hA0
                        obtain ⟨Bn, rfl⟩ := Int.eq_ofNat_of_zero_le hB0
                        have hAk : An < k := by omega
                        have hBk : Bn < k := by omega
                        clear hA0 hB0 d0 d1
                        obtain ⟨g1, c1, g2, c2, u1, x1, x2, x3⟩ := HTr.out.rd htl.out hAk hi1 hJ1'
                        obtain ⟨g3, c3, g4, c4, u2, x4, x5, x6⟩ := HTr.out.rd htl.out hBk hi1 hJ1'
                        cases u1
                        · go_wp2_with fail
                          go_meet
                          exact ⟨_, rfl, hR0⟩
                        · go_wp2_with fail
                          go_meet
                          exact ⟨_, rfl, hR0⟩
                      · as_aux_lemma =>
                        obtain ⟨⟨hA0, hA1⟩, hB0, hB1⟩ := HN.out.2 (by decide)
                        obtain ⟨An, rfl⟩ := Int.eq_ofNat_of_zero_le hA0
                        obtain ⟨Bn, rfl⟩ := Int.eq_ofNat_of_zero_le hB0
                        have hAk : An < k := by omega
                        have hBk : Bn < k := by omega
                        clear hA0 hB0 d0 d1
                        obtain ⟨g1, c1, g2, c2, u1, x1, x2, x3⟩ := HTr.out.rd htl.out hAk hi1 hJ1'
                        obtain ⟨g3, c3, g4, c4, u2, x4, x5, x6⟩ := HTr.out.rd htl.out hBk hi1 hJ1'
                        cases u1
                        · go_wp2_with fail
                          go_meet
                          exact ⟨_, rfl, hR0⟩
                        · go_wp2_with fail
                          go_meet
                          exact ⟨_, rfl, hR0⟩
                      · as_aux_lemma =>
                        obtain ⟨hA0, hA1⟩ := HN.out.1 (by decide)
                        obtain ⟨An, rfl⟩ := Int.eq_ofNat_of_zero_le hA0
                        have hAk : An < k := by omega
                        clear hA0 d0 d1
                        obtain ⟨g1, c1, g2, c2, u1, x1, x2, x3⟩ := HTr.out.rd htl.out hAk hi1 hJ1'
                        go_wp2_with fail
                        go_meet
                        exact ⟨_, rfl, hR0⟩
                      · as_aux_lemma =>
                        obtain ⟨hA0, hA1⟩ := HN.out.1 (by decide)
                        obtain ⟨An, rfl⟩ := Int.eq_ofNat_of_zero_le hA0
                        have hAk : An < k := by omega
                        clear hA0 d0 d1
                        go_wp2_with fail
                        go_loopw [14, 16] (fun b m wz => ∃ (z : Bool) (M : Nat), b = .bool z ∧ m = .int .i64 M ∧ i ≤ M ∧ M ≤ s.size + 2 ∧ Hid (Below wr.heap.size wr wz)) (fun _ m _ => s.size + 2 - (intOf m).toNat)
                        case atStart => exact ⟨_, i + 1, rfl, by go_num, by omega, by omega, hR0⟩
                        case round =>
                          clear hR0
                          obtain ⟨z, M, rfl, rfl, hM1, hM2, hbz⟩ := hrel
                          by_cases hM : M ≤ J
                          · have hMI : (M : Int) ≤ (J : Int) := by omega
                            have HTz := Lib.hid (HTr.out.stay hbz.out)
                            have HLz := Lib.hid (hLB.out.stay hbz.out)
                            obtain ⟨g1, c1, g2, c2, u1, x1, x2, x3⟩ := HTz.out.rd htl.out hAk hi1 (show M < s.size + 1 by omega)
                            obtain ⟨g3, c3, g4, c4, u2, e1, _, x4, _, x5, _, e4⟩ := HLz.out.cell (i := M) (j := J) (by rw [hls.out]; omega) hJ1'
                            injection e1 with e1 _ _
                            injection e1 with e1
                            injection e1 with e1 _ _
                            subst e1
                            clear e4
                            cases z
                            · cases u1
                              · go_wp2_with fail
                                go_roundw
                                case rel => exact ⟨_, M + 1, rfl, by go_num, by omega, by omega, hbz⟩
                                case measure => simp [intOf]; omega
                              · go_wp2_with fail
                                go_roundw
                                case rel => exact ⟨_, M + 1, rfl, by go_num, by omega, by omega, hbz⟩
                                case measure => simp [intOf]; omega
                            · go_wp2_with fail
                              go_roundw
                              case rel => exact ⟨_, M + 1, rfl, by go_num, by omega, by omega, hbz⟩
                              case measure => simp [intOf]; omega
                          · go_wp2_with fail
                            go_meet
                            exact ⟨_, rfl, hbz⟩
                    case rest =>
                      as_aux_lemma =>
                      obtain ⟨z, rfl, hbz⟩ := hcut
                      have HLz := Lib.hid (hLB.out.stay hbz.out)
                      have HBz := Lib.hid (hB.out.trans (hbz.out.mono hws))
                      clear hLB hB d0 d1 hbz
                      obtain ⟨g1, c1, g2, c2, u, e1, hb1, e2, hb2, e3, hfz, e4⟩ := HLz.out.cell (i := i) (j := J) (by rw [hls.out]; omega) (by omega)
                      have HLp := Lib.hid (HLz.out.put (i := i) (by rw [hls.out]; omega) e4 J z)
                      have HBp := Lib.hid (HBz.out.setCell (p := ⟨g2, J, none⟩) hb2 (.bool z))
                      injection e1 with e1 _ _
                      injection e1 with e1
                      injection e1 with e1 _ _
                      subst e1
                      clear e4 HLz HBz
                      go_wp2_with fail
                      go_roundw
                      case rel => exact ⟨J + 1, by omega, by omega, by go_num, HLp, HBp⟩
                      case measure => simp [intOf]; omega
                  · obtain rfl : J = s.size + 1 := by omega
                    go_wp2_with fail
                    go_roundw
                    case rel => exact ⟨(i : Int) - 1, by omega, by omega, rfl, hLB, hB⟩
                    case measure => simp [intOf]
              · obtain rfl : I = -1 := by omega
                have hwc : w.heap.size ≤ wc.heap.size := HBw.out.size
                have hBf := Lib.hid (HBw.out.trans (hB.out.mono (by have := Hwk.out; omega)))
                have HTw := Lib.hid (HTc.out.stay (by have := hB.out; rw [Hwk.out] at this; exact this))
                have HLw := Lib.hid (hLB.out.base (base' := w.heap.size) (by have := Hwk.out; omega))
                have hown : Hid (wr.ownsRow w.heap.size 133 1 (.slice (some ⟨gT, 0, none⟩) k cT) k tl) := Lib.hid (by have := HTw.out.own; rw [htl.out] at this; exact this)
                have hk9 : k ≤ 1000000000 := by omega
                have hbs : w.heap.size ≤ wr.heap.size := hBf.out.size
                clear hLB hB
                go_wp2_with (at_builtin; refine appOne elBoolss (by decide) rfl (.tmp 228) (.tmp 230) rfl w.heap.size _ k tl [.slice (some ⟨g, 0, none⟩) (s.size + 1) cL] wr rfl rfl hown.out rfl (by simp [Value.oneCell']) hk9 hbs ?_; intro v8 w8 ho8 hg8' _)
                obtain ⟨gT8, cT8, rfl, _⟩ := own_some ho8 (by omega)
                have hg8 := grownTrans (grownBel ((Below.refl wr.heap.size wr).alloc (Nat.le_refl _) _)) hg8'
                have HT8 := Lib.hid (TB.add HTw.out HLw.out hls.out hg8 (by rw [htl.out]; exact ho8))
                have HB8 := Lib.hid (hBf.out.grown hg8 hbs (fun b hb' => (World.ownsRow.lt hown.out b hb').1))
                have htl8 : Hid ((tl ++ [Value.slice (some ⟨g, 0, none⟩) (s.size + 1) cL]).length = k + 1) := Lib.hid (by rw [List.length_append, htl.out]; rfl)
                go_roundw
                case rel => exact ⟨k + 1, _, _, _, by omega, by go_num, rfl, htl8, HT8, HB8⟩
                case measure => simp [intOf]; omega
    · obtain rfl : k = L := by omega
      go_wp2
      go_ret
      exact ⟨_, tl, rfl, hb.out, htl, hT⟩
end Go.Proofs.Ytbcjhiponbfbnaa
