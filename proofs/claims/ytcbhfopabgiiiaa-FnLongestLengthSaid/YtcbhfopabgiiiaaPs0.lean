/- Two automata side by side: the reference's, mode 0. -/
import Derived.Test.YtcbhfopabgiiiaaPsa
set_option linter.unusedSimpArgs false
set_option linter.unusedVariables false
set_option linter.unusedSectionVars false
namespace Go.Proofs.Ytcbhfopabgiiiaa
open Go.RowKit
set_option maxRecDepth 100000
variable {S T : Nat → Prop}
set_option maxHeartbeats 8000000 in
theorem l11Pair0_c (vn ve un ue : Value) (A B : DfaD) (w : World) (h : DfaR S w vn ve A) (h' : DfaR T w un ue B) (hA : okD A) (hB : okD B) :
    Calls Try.prog 189 #[.agg #[vn, ve], .agg #[un, ue], .int .i64 0] w (PL gBoth A B w) := by
  obtain ⟨a, ca, b, d, rfl, rfl, hn, hm1⟩ := h.shapes
  obtain ⟨a', ca', b', d', rfl, rfl, hn', hm1'⟩ := h'.shapes
  obtain ⟨W, hW⟩ : ∃ W, W = ((w.alloc (.cells #[.slice a A.1.length ca, .slice b A.2.length d] 26)).alloc (.cells #[.slice a' B.1.length ca', .slice b' B.2.length d'] 26)).alloc (.cells #[.slice none 0 0, .slice none 0 0] 26) := ⟨_, rfl⟩
  have Hb0 : Hid (Below w.heap.size w W) := by rw [hW]; exact (((Below.refl _ _).alloc (Nat.le_refl _) _).alloc (by simp) _).alloc (by simp; omega) _
  have K4 : Hid (W.heap[w.heap.size]? = some (.cells #[.slice a A.1.length ca, .slice b A.2.length d] 26 (0, 0))) := by rw [hW]; exact blkOld (blkOld (blkNew _ _ rfl))
  have K5 : Hid (W.heap[w.heap.size + 1]? = some (.cells #[.slice a' B.1.length ca', .slice b' B.2.length d'] 26 (0, 0))) := by rw [hW]; exact blkOld (blkNew _ _ (by simp))
  have K6 : Hid (W.heap[w.heap.size + 2]? = some (.cells #[.slice none 0 0, .slice none 0 0] 26 (0, 0))) := by rw [hW]; exact blkNew _ _ (by simp)
  have hzW := (Array.getElem?_eq_some_iff.1 K6.out).1
  have H := Lib.hid (h.stay (kpB Hb0.out))
  have H' := Lib.hid (h'.stay (kpB Hb0.out))
  have HW := Lib.hid hW
  clear h h' hW
  obtain ⟨c0, c1, _, _⟩ := blk2 K4.out
  obtain ⟨e0, e1, _, _⟩ := blk2 K5.out
  rw [HW.out] at c0 c1 e0 e1
  obtain ⟨W4, hW4⟩ : ∃ W4, W4 = ((W.alloc (.cells #[.int .i64 0, .int .i64 0] 3)).alloc (.cells #[.slice (some ⟨W.heap.size, 0, none⟩) 2 2] 39)).alloc (.cells #[.slice none 0 0, .slice none 0 0] 26) := ⟨_, rfl⟩
  have hzW3 : Hid (W.heap.size = w.heap.size + 3) := by rw [HW.out]; simp [Hid]
  have hb4 : Below W.heap.size W W4 := by rw [hW4]; exact (((Below.refl _ _).alloc (Nat.le_refl _) _).alloc (by simp) _).alloc (by simp; omega) _
  have HL0 : Hid (LS W.heap.size [(.slice (some ⟨W.heap.size, 0, none⟩) 2 2, (0, 0))] (.slice (some ⟨W.heap.size + 1, 0, none⟩) 1 1) W4) := by
    have h1 : (W.alloc (.cells #[.int .i64 0, .int .i64 0] 3)).ownsRow W.heap.size 3 1 (.slice (some ⟨W.heap.size, 0, none⟩) 2 2) 2 [.int .i64 ((0 : Nat) : Int), .int .i64 ((0 : Nat) : Int)] := ownLit (n := 2) [.int .i64 0, .int .i64 0] (Nat.le_refl _) (by omega) rfl
    have h2 : ((W.alloc (.cells #[.int .i64 0, .int .i64 0] 3)).alloc (.cells #[.slice (some ⟨W.heap.size, 0, none⟩) 2 2] 39)).ownsRow W.heap.size 39 1 (.slice (some ⟨W.heap.size + 1, 0, none⟩) 1 1) 1 [.slice (some ⟨W.heap.size, 0, none⟩) 2 2] := by
      have := ownLit (w := W.alloc (.cells #[.int .i64 0, .int .i64 0] 3)) (base := W.heap.size) (e := 39) (sz := 1) (n := 1) [.slice (some ⟨W.heap.size, 0, none⟩) 2 2] (by simp) (by omega) rfl
      rw [World.size_alloc] at this
      exact this
    rw [hW4]
    refine ⟨h2.alloc _, fun p hp => ?_⟩
    simp at hp
    subst hp
    exact (h1.alloc _).alloc _
  have HX0 : Hid (BS W.heap.size W (W.heap.size + 2) [] [] (.slice none 0 0) (.slice none 0 0) W4) := by
    rw [hW4]
    exact ⟨by rw [← hW4]; exact hb4, by rw [← hW4]; exact hb4.size, by omega, blkNew _ _ (by simp), World.ownsRow_nil _ _ _ _, World.ownsRow_nil _ _ _ _, nofun, List.nodup_nil⟩
  have HW4 := Lib.hid hW4
  have HA := Lib.hid hA
  have HB := Lib.hid hB
  have hA40 := hA.1.2
  have hB40 := hB.1.2
  clear hW4 hb4 hA hB
  go_enter Try.func189, Try.ntmps189
  go_wp2_with fail
  clear c0 c1 e0 e1
  rw [← HW.out]
  try rw [← hzW3.out]
  try rw [← HW4.out]
  obtain ⟨B9, hB9⟩ : ∃ B9, B9 = W.heap.size + 2 := ⟨_, rfl⟩
  rw [show W.heap.size + 1 + 1 = B9 from hB9.symm]
  rw [← hB9] at HX0
  have HB9 := Lib.hid hB9
  clear hB9 HW4
  go_loopw [8, 10] (fun m i wr => ∃ (k : Nat) (ls : List (Value × (Nat × Nat))) (rs : List (Value × List Int)) (vN vE : Value), k ≤ 40 ∧ k ≤ ls.length ∧ i = .int .i64 k ∧ Hid (ls.map (·.2) = rnd (pn A B) (0, 0) k) ∧ Hid (rs.map (·.2) = rowsX (pn A B) (0, 0) k) ∧
    Hid (BS W.heap.size W B9 rs (endsX (pn A B) (pe gBoth A B) (0, 0) k) vN vE wr) ∧ Hid (LS W.heap.size ls m wr) ∧ Hid (vN.ownBlock = none ∨ vN.ownBlock ≠ m.ownBlock)) (fun _ i _ => 41 - (intOf i).toNat)
  case atStart => exact ⟨0, [(.slice (some ⟨W.heap.size, 0, none⟩) 2 2, (0, 0))], [], _, _, by omega, by simp, rfl, rfl, rfl, HX0, HL0, .inl rfl⟩
  case round =>
    clear HX0 HL0
    obtain ⟨k, ls, rs, vN, vE, hk, hkl, rfl, HM, Hrs, HX, HL, Hd1⟩ := hrel
    have hl1 : 0 < ls.length := by
      have h1 := rnd_pos (pn A B) (0, 0) k
      have h2 := congrArg List.length HM.out
      rw [List.length_map] at h2
      omega
    obtain ⟨gL, capL, rfl, hgL, _, _⟩ := own_some HL.out.own hl1
    have hlb := Fl.shape (ownFl HL.out.own).fl
    have hlen : ls.length ≤ 9223372036854775807 := by obtain ⟨_, _, _, h⟩ := hlb; exact h
    clear hlb
    have Hlen : Hid (ls.length = (rnd (pn A B) (0, 0) k).length) := by have := congrArg List.length HM.out; unfold Hid; simpa using this
    by_cases hlt : k < ls.length
    · have hkI : (k : Int) < (ls.length : Int) := by omega
      by_cases hfull : 40 < ls.length
      · have hfI : (40 : Int) < (ls.length : Int) := by omega
        have Hbig : Hid (pbig A B 40) := ⟨k, by have := Hlen.out; omega⟩
        have hbel := HX.out.bel
        have KR := Lib.hid (blkBel hbel K6.out)
        have HBR := Lib.hid (Hb0.out.trans (hbel.mono Hb0.out.size))
        obtain ⟨z0, z1, y0, y1⟩ := blk2 KR.out
        clear HX HL
        go_wp2
        have f0 := cell_setOther (o := 1) (u := .slice none 0 0) (cell_setSame (u := .slice none 0 0) z0) (by omega)
        have f1 := cell_setSame (u := .slice none 0 0) (cell_setOther (o := 0) (u := .slice none 0 0) z1 (by omega))
        refine bodyPost_ret (v := .tuple #[.agg #[.slice none 0 0, .slice none 0 0], .bool false]) (by simp [results, Try.results189, go_sem, f0, f1]) rfl ?_
        exact ⟨_, _, _, rfl, (HBR.out.setCell (by show w.heap.size ≤ w.heap.size + 2; omega) _).setCell (by show w.heap.size ≤ w.heap.size + 2; omega) _, .inr ⟨rfl, rfl, rfl, Hbig.out⟩⟩
      · have hfI : ¬ ((40 : Int) < (ls.length : Int)) := by omega
        have hltr : k < (rnd (pn A B) (0, 0) k).length := by have := Hlen.out; omega
        have Hsucc := Lib.hid (rnd_succ_some (pn A B) hltr)
        have Hrow := Lib.hid (rowX_at (pn A B) (0, 0) hltr)
        have Hend := Lib.hid (endX_at (pn A B) (pe gBoth A B) (0, 0) hltr)
        have Hnd := Lib.hid (rnd_nodup (pn A B) (0, 0) k)
        have HPM := Lib.hid (rnd_all (pn A B) (P := pst A B) (pst_zero HA.out HB.out) (fun s hs => ⟨pst_step HA.out HB.out s hs 0 (by omega), pst_step HA.out HB.out s hs 1 (by omega), pst_step HA.out HB.out s hs 2 (by omega)⟩) k)
        obtain ⟨s, hs⟩ : ∃ s, s = (rnd (pn A B) (0, 0) k)[k] := ⟨_, rfl⟩
        have Hs := Lib.hid (show (rnd (pn A B) (0, 0) k)[k]? = some s by rw [hs]; exact List.getElem?_eq_getElem hltr)
        have Hps : Hid (pst A B s) := by rw [hs]; exact HPM.out _ (List.getElem_mem _)
        rw [← hs] at Hsucc Hrow Hend
        clear hs
        obtain ⟨M, hMe⟩ : ∃ M, M = rnd (pn A B) (0, 0) k := ⟨_, rfl⟩
        rw [← hMe] at HM Hsucc Hrow Hnd HPM Hs
        have HMe := Lib.hid hMe
        have Hrl : Hid (rs.length = k) := by have := congrArg List.length Hrs.out; rw [rowsX_len] at this; unfold Hid; simpa using this
        clear hMe hltr
        obtain ⟨es, hes⟩ : ∃ es, es = endsX (pn A B) (pe gBoth A B) (0, 0) k := ⟨_, rfl⟩
        have Hes := Lib.hid hes
        have Hel : Hid (es.length = k) := by rw [hes, endsX_len]; rfl
        rw [← hes] at HX
        clear hes
        go_wp2_with fail
        obtain ⟨B11, hB11⟩ : ∃ B11, B11 = wr.heap.size := ⟨_, rfl⟩
        have ho11 : Hid ((wr.alloc (.cells #[] 3)).ownsRow W.heap.size 3 1 (.slice (some ⟨B11, 0, none⟩) 0 0) 0 []) := by rw [hB11]; exact ownLit [] HX.out.size (by omega) rfl
        have hbx : Below wr.heap.size wr (wr.alloc (.cells #[] 3)) := (Below.refl _ _).alloc (Nat.le_refl _) _
        have HX2 := Lib.hid (HX.out.stay hbx)
        have HL2 := Lib.hid (HL.out.stay hbx)
        have Hne : Hid (∀ p ∈ rs, p.1.ownBlock ≠ Value.ownBlock (.slice (some ⟨B11, 0, none⟩) 0 0)) := fun p hp he => by
          obtain ⟨g, e1, hg⟩ := HX.out.lt hp
          rw [e1, hB11] at he
          simp [Value.ownBlock] at he
          omega
        have Hne2 : Hid (∀ p ∈ ls, p.1.ownBlock ≠ Value.ownBlock (.slice (some ⟨B11, 0, none⟩) 0 0)) := fun p hp he => by
          obtain ⟨g, c, e1, _, hg⟩ := HL.out.lt hp
          rw [e1, hB11] at he
          simp [Value.ownBlock] at he
          omega
        rw [← hB11]
        clear hB11 HX HL hbx
        generalize wr.alloc (.cells #[] 3) = w5 at *
        go_loopw [8, 11, 12] (fun m u i wr => ∃ (c : Nat) (ls : List (Value × (Nat × Nat))), c ≤ 3 ∧ i = .int .i64 c ∧ ls.length ≤ 40 + c ∧ Hid (ls.map (·.2) = visN (pn A B) M s c) ∧ Hid (LS W.heap.size ls m wr) ∧ Hid (wr.ownsRow W.heap.size 3 1 u c ((rowP A B M s c).map (.int .i64 ·))) ∧
          Hid (BS W.heap.size W B9 rs es vN vE wr) ∧ Hid (vN.ownBlock = none ∨ vN.ownBlock ≠ m.ownBlock) ∧ Hid (∀ p ∈ rs, p.1.ownBlock ≠ u.ownBlock) ∧ Hid (∀ p ∈ ls, p.1.ownBlock ≠ u.ownBlock)) (fun _ _ i _ => 3 - (intOf i).toNat)
        case atStart => exact ⟨0, ls, by omega, rfl, by omega, HM, HL2, ho11, HX2, Hd1, Hne, Hne2⟩
        case round =>
          have Hk40 : Hid (k < 40) := by unfold Hid; omega
          clear HL2 ho11 HX2 Hd1 Hne Hne2 hlt hkI hfull hfI hlen HM hl1 Hlen hkl
          obtain ⟨c, ls, hc, rfl, hll, HM, HL, ho, HX, Hd1, Hne, Hne2⟩ := hrel
          have Hpre : Hid (M <+: visN (pn A B) M s c) := visN_pre (pn A B) M s (Nat.zero_le c)
          have Hnd2 := Lib.hid (visN_nodup (pn A B) s Hnd.out c)
          have Hsuc : Hid (visN (pn A B) M s (c + 1) = vis (visN (pn A B) M s c) (pn A B s c)) := rfl
          obtain ⟨M2, hM2⟩ : ∃ M2, M2 = visN (pn A B) M s c := ⟨_, rfl⟩
          have HM2 := Lib.hid hM2
          rw [← hM2] at HM Hpre Hnd2 Hsuc
          clear hM2
          have Hlm : Hid (M2.length = ls.length) := by have := congrArg List.length HM.out; unfold Hid; simpa using this.symm
          have hkl : k < ls.length := by
            have h1 := Hpre.out.length_le
            have h2 := (List.getElem?_eq_some_iff.1 Hs.out).1
            have h3 := Hlm.out
            omega
          have hkI : (k : Int) < (ls.length : Int) := by omega
          have hlsI : (ls.length : Int) ≤ 43 := by omega
          obtain ⟨gL, capL, rfl, hgL, _, _⟩ := own_some HL.out.own (by omega)
          obtain ⟨au, capu, rfl, _⟩ := (ownFl ho.out).shape
          have hst : (ls[k]).2 = s := by
            obtain ⟨r, hr⟩ := Hpre.out
            have h1 : M2[k]? = some s := by rw [← hr, List.getElem?_append_left (List.getElem?_eq_some_iff.1 Hs.out).1]; exact Hs.out
            rw [← HM.out, List.getElem?_map, List.getElem?_eq_getElem hkl] at h1
            injection h1
          have Hst := Lib.hid hst
          clear hst
          by_cases hc3 : c < 3
          · obtain ⟨bn, on, br, or_, cx, e1, x1, x2, x3⟩ := H.out.step HA.out Hps.out.1 hc3
            cases e1
            obtain ⟨bn', on', br', or', cx', e1, y1, y2, y3⟩ := H'.out.step HB.out Hps.out.2 hc3
            cases e1
            have hs1I : (s.1 : Int) < (A.1.length : Int) := by have := Hps.out.1; omega
            have hs2I : (s.2 : Int) < (B.1.length : Int) := by have := Hps.out.2; omega
            have hs1N : s.1 < A.1.length := Hps.out.1
            have hs2N : s.2 < B.1.length := Hps.out.2
            have hcI : (c : Int) < 3 := by omega
            have Htn : Hid (pn A B s c = (dn A s.1 c, dn B s.2 c)) := rfl
            have Hrc := Lib.hid (rowF_eq (pn A B) M s hc3)
            rw [Hsuc.out] at Hrc
            have Hrp := Lib.hid (rowP_succ A B M s c)
            obtain ⟨t, ht⟩ : ∃ t, t = pn A B s c := ⟨_, rfl⟩
            rw [← ht] at Htn Hrc Hsuc
            clear ht
            have hu' : ∃ u, u = dn A s.1 c := ⟨_, rfl⟩
            obtain ⟨u, hu⟩ := hu'
            have hu' : ∃ u, u = dn B s.2 c := ⟨_, rfl⟩
            obtain ⟨u', hu'⟩ := hu'
            rw [← hu, ← hu'] at Htn
            rw [← hu] at x2
            rw [← hu'] at y2
            clear hu hu' x3 y3
            obtain ⟨c0, c1, _, _⟩ := blk2 (blkBel HX.out.bel K4.out)
            obtain ⟨e0, e1, _, _⟩ := blk2 (blkBel HX.out.bel K5.out)
            obtain ⟨gr, cr, k1, k2, k3⟩ := HL.out.at hkl
            rw [Hst.out] at k2 k3
            have x1' := kpB (S := fun _ => True) HX.out.bel _ _ trivial x1
            have x2' := kpB (S := fun _ => True) HX.out.bel _ _ trivial x2
            have y1' := kpB (S := fun _ => True) HX.out.bel _ _ trivial y1
            have y2' := kpB (S := fun _ => True) HX.out.bel _ _ trivial y2
            go_wp2_with fail
            go_quiet (fail)
            have hbq : Below wr.heap.size wr (wr.drewN nq) := belReflN _ _ _
            replace HX := Lib.hid (HX.out.stay hbq)
            replace HL := Lib.hid (HL.out.stay hbq)
            replace ho := Lib.hid (ownStay ho.out hbq)
            clear hbq
            clear c0 c1 e0 e1 k1 k2 k3 x1' x2' y1' y2'
            generalize wr.drewN nq = w6 at *
            obtain ⟨c0, c1, _, _⟩ := blk2 (blkBel HX.out.bel K4.out)
            obtain ⟨e0, e1, _, _⟩ := blk2 (blkBel HX.out.bel K5.out)
            obtain ⟨gr, cr, k1, k2, k3⟩ := HL.out.at hkl
            rw [Hst.out] at k2 k3
            have x1' := kpB (S := fun _ => True) HX.out.bel _ _ trivial x1
            have x2' := kpB (S := fun _ => True) HX.out.bel _ _ trivial x2
            have y1' := kpB (S := fun _ => True) HX.out.bel _ _ trivial y1
            have y2' := kpB (S := fun _ => True) HX.out.bel _ _ trivial y2
            go_wp2_with fail
            go_quiet (fail)
            have hbq : Below w6.heap.size w6 (w6.drewN nq) := belReflN _ _ _
            replace HX := Lib.hid (HX.out.stay hbq)
            replace HL := Lib.hid (HL.out.stay hbq)
            replace ho := Lib.hid (ownStay ho.out hbq)
            clear hbq
            clear c0 c1 e0 e1 k1 k2 k3 x1' x2' y1' y2'
            generalize w6.drewN nq = w7 at *
            go_wp2_with fail
            go_loop [15, 16] (fun at_ i => ∃ (j : Nat) (z : Int), j ≤ ls.length ∧ at_ = .int .i64 z ∧ i = .int .i64 j ∧ -1 ≤ z ∧ z ≤ 43 ∧ Hid (fndP M2 t j z)) (fun _ i => ls.length - (intOf i).toNat)
            case atStart => exact ⟨0, -1, by omega, rfl, rfl, by omega, by omega, fndP_start M2 t⟩
            case round =>
              obtain ⟨j, z, hj, rfl, rfl, hz0, hz1, hf⟩ := hrel
              by_cases hjl : j < ls.length
              · obtain ⟨gr2, cr2, q1, q2, q3⟩ := HL.out.at hjl
                have hjI : (j : Int) < (ls.length : Int) := by omega
                have hjM : j < M2.length := by rw [Hlm.out]; exact hjl
                have hMj : M2[j] = (ls[j]).2 := by
                  have h1 : (ls.map (·.2))[j]? = M2[j]? := by rw [HM.out]
                  rw [List.getElem?_map, List.getElem?_eq_getElem hjl, List.getElem?_eq_getElem hjM] at h1
                  injection h1 with h1
                  exact h1.symm
                obtain ⟨p, hp⟩ : ∃ p, p = (ls[j]).2 := ⟨_, rfl⟩
                rw [← hp] at q2 q3 hMj
                clear hp
                obtain ⟨p1, p2⟩ := p
                dsimp only at q2 q3
                by_cases h1 : p1 = u
                · have b1 := bint.2 h1
                  by_cases h2 : p2 = u'
                  · have b2 := bint.2 h2
                    have hf2 := Lib.hid (fndP_yes hjM (t := t) (by rw [hMj, Htn.out, h1, h2]))
                    clear h1 h2 hMj
                    go_wp2
                    go_round
                    case rel => exact ⟨j + 1, _, by omega, rfl, by go_num, by omega, by omega, hf2⟩
                    case measure => simp [intOf]; omega
                  · have b2 := bintF h2
                    have hf2 := Lib.hid (fndP_no hf.out hjM (by rw [hMj, Htn.out]; exact fun e => h2 (by injection e)))
                    clear h1 h2 hMj
                    go_wp2
                    go_round
                    case rel => exact ⟨j + 1, _, by omega, rfl, by go_num, by omega, by omega, hf2⟩
                    case measure => simp [intOf]; omega
                · have b1 := bintF h1
                  have hf2 := Lib.hid (fndP_no hf.out hjM (by rw [hMj, Htn.out]; exact fun e => h1 (by injection e)))
                  clear h1 hMj
                  go_wp2
                  go_round
                  case rel => exact ⟨j + 1, _, by omega, rfl, by go_num, by omega, by omega, hf2⟩
                  case measure => simp [intOf]; omega
              · obtain rfl : j = ls.length := by omega
                have hnk : ¬ ((ls.length : Int) < (ls.length : Int)) := by omega
                have hfe := hf.out
                rw [← Hlm.out] at hfe
                have hzb := HX.out.size
                rcases fndP_end Hnd2.out hfe with ⟨hz, hm⟩ | ⟨hm, hz⟩
                · subst hz
                  have Hv : Hid (vis M2 t = M2 ++ [t]) := vis_new hm
                  rw [Hv.out, idx_new hm, Hlm.out] at Hrc
                  have HM' : Hid ((ls ++ [(Value.slice (some ⟨w7.heap.size, 0, none⟩) 2 2, t)]).map (·.2) = visN (pn A B) M s (c + 1)) := by
                    rw [Hsuc.out, Hv.out, List.map_append, HM.out]; rfl
                  have Hrw : Hid ((rowP A B M s (c + 1)).map (Value.int .i64 ·) = (rowP A B M s c).map (Value.int .i64 ·) ++ [.int .i64 ((ls.length : Nat) : Int)]) := by
                    rw [Hrp.out, List.map_append, Hrc.out]; rfl
                  have huA : Hid ((w7.alloc (.cells #[.int .i64 ((u : Nat) : Int), .int .i64 ((u' : Nat) : Int)] 3)).ownsRow W.heap.size 3 1 (.slice (some ⟨w7.heap.size, 0, none⟩) 2 2) 2 [.int .i64 ((t.1 : Nat) : Int), .int .i64 ((t.2 : Nat) : Int)]) := by
                    rw [Htn.out]
                    exact ownLit (n := 2) [.int .i64 ((u : Nat) : Int), .int .i64 ((u' : Nat) : Int)] hzb (by omega) rfl
                  have hbA : Below w7.heap.size w7 (w7.alloc (.cells #[.int .i64 ((u : Nat) : Int), .int .i64 ((u' : Nat) : Int)] 3)) := (Below.refl _ _).alloc (Nat.le_refl _) _
                  have HLA := Lib.hid (HL.out.stay hbA)
                  have HXA := Lib.hid (HX.out.stay hbA)
                  have hoA := Lib.hid (ownStay ho.out hbA)
                  have hzA : (w7.alloc (.cells #[.int .i64 ((u : Nat) : Int), .int .i64 ((u' : Nat) : Int)] 3)).heap.size = w7.heap.size + 1 := World.size_alloc _ _
                  have HzA := Lib.hid hzA
                  clear hf hfe hm hbA hzA
                  go_wp2_with (first
                    | (refine appAt elInts (by decide) rfl (.tmp 92) (.tmp 96) rfl W.heap.size _ _ _ [.slice (some ⟨w7.heap.size, 0, none⟩) 2 2] (w7.alloc (.cells #[.int .i64 ((u : Nat) : Int), .int .i64 ((u' : Nat) : Int)] 3)) (by simp) rfl rfl HLA.out.own rfl (by simp [Value.oneCell']) (by omega) (by simp; omega) ?_
                       intro v8 w8 ho8 hg8 hat8
                       have HL8 := Lib.hid (HLA.out.add huA.out hg8 ho8.out)
                       have HX8 := Lib.hid (HXA.out.growL HLA.out.own hg8 Hd1.out)
                       have hor8 := Lib.hid (hoA.out.kept hg8 (own_two hoA.out HLA.out.own (by decide)))
                       have Hd8 : Hid (vN.ownBlock = none ∨ vN.ownBlock ≠ v8.ownBlock) := by
                         rcases hat8.out with h | h
                         · rw [h]; exact Hd1.out
                         · rw [h]
                           exact .inr (fun he => by have := (own_ge HX.out.nx _ he).2; have := HzA.out; omega)
                       have Hne8 : Hid (∀ p ∈ ls ++ [(Value.slice (some ⟨w7.heap.size, 0, none⟩) 2 2, t)], p.1.ownBlock ≠ Value.ownBlock (.slice au c capu)) := fun p hp he => by
                         rcases List.mem_append.1 hp with hp | hp
                         · exact Hne2.out p hp he
                         · simp at hp
                           subst hp
                           have := (own_ge ho.out w7.heap.size he.symm).2
                           omega
                       have hz8 := HX8.out.size
                       clear hat8 hg8 ho8)
                    | (refine appAt elInt (by decide) rfl (.tmp 98) (.tmp 100) rfl W.heap.size _ _ _ [.int .i64 ((ls.length : Nat) : Int)] w8 rfl rfl rfl hor8.out rfl (by simp [Value.oneCell']) (by omega) hz8 ?_
                       intro v9 w9 ho9 hg9 hat9
                       have HL9 := Lib.hid (HL8.out.growI hor8.out hg9 Hne8.out)
                       have HX9 := Lib.hid (HX8.out.grow hor8.out hg9 Hne.out)
                       have Hne9 : Hid (∀ p ∈ rs, p.1.ownBlock ≠ v9.ownBlock) := fun p hp he => by
                         rcases hat9.out with h | h
                         · exact Hne.out p hp (he.trans h)
                         · obtain ⟨g, e1, hg⟩ := HX8.out.lt hp
                           rw [e1, h] at he
                           injection he with he
                           omega
                       have Hne9' : Hid (∀ p ∈ ls ++ [(Value.slice (some ⟨w7.heap.size, 0, none⟩) 2 2, t)], p.1.ownBlock ≠ v9.ownBlock) := fun p hp he => by
                         rcases hat9.out with h | h
                         · exact Hne8.out p hp (he.trans h)
                         · obtain ⟨g, cc, e1, _, hg⟩ := HL8.out.lt hp
                           rw [e1, h] at he
                           simp [Value.ownBlock] at he
                           omega
                       rw [← Hrw.out] at ho9
                       clear hat9 hg9))
                  go_roundw
                  case rel => exact ⟨c + 1, _, by omega, by go_num, by simp; omega, HM', HL9, ho9, HX9, Hd8, Hne9, Hne9'⟩
                  case measure => simp [intOf]; omega
                · have Hv : Hid (vis M2 t = M2) := vis_old hm
                  rw [Hv.out] at Hrc
                  rw [hz] at hz0 hz1 ⊢
                  have HM' : Hid (ls.map (·.2) = visN (pn A B) M s (c + 1)) := by rw [Hsuc.out, Hv.out, HM.out]; exact rfl
                  have Hrw : Hid ((rowP A B M s (c + 1)).map (Value.int .i64 ·) = (rowP A B M s c).map (Value.int .i64 ·) ++ [.int .i64 ((@List.idxOf (Nat × Nat) instBEqOfDecidableEq t M2 : Nat) : Int)]) := by
                    rw [Hrp.out, List.map_append, Hrc.out]; rfl
                  clear hf hfe hm hz Hrc
                  generalize hy : ((@List.idxOf (Nat × Nat) instBEqOfDecidableEq t M2 : Nat) : Int) = y at *
                  have hy0 : ¬ (y < 0) := by omega
                  clear hy
                  go_wp2_with (
                    refine appAt elInt (by decide) rfl (.tmp 98) (.tmp 100) rfl W.heap.size _ _ _ [.int .i64 y] w7 rfl rfl rfl ho.out rfl (by simp [Value.oneCell']) (by omega) hzb ?_
                    intro v9 w9 ho9 hg9 hat9
                    have HL9 := Lib.hid (HL.out.growI ho.out hg9 Hne2.out)
                    have HX9 := Lib.hid (HX.out.grow ho.out hg9 Hne.out)
                    have Hne9 : Hid (∀ p ∈ rs, p.1.ownBlock ≠ v9.ownBlock) := fun p hp he => by
                      rcases hat9.out with h | h
                      · exact Hne.out p hp (he.trans h)
                      · obtain ⟨g, e1, hg⟩ := HX.out.lt hp
                        rw [e1, h] at he
                        injection he with he
                        omega
                    have Hne9' : Hid (∀ p ∈ ls, p.1.ownBlock ≠ v9.ownBlock) := fun p hp he => by
                      rcases hat9.out with h | h
                      · exact Hne2.out p hp (he.trans h)
                      · obtain ⟨g, cc, e1, _, hg⟩ := HL.out.lt hp
                        rw [e1, h] at he
                        simp [Value.ownBlock] at he
                        omega
                    rw [← Hrw.out] at ho9
                    clear hat9 hg9)
                  go_roundw
                  case rel => exact ⟨c + 1, ls, by omega, by go_num, by omega, HM', HL9, ho9, HX9, Hd1, Hne9, Hne9'⟩
                  case measure => simp [intOf]; omega
          · obtain rfl : c = 3 := by omega
            rw [HM2.out, visN_three, ← Hsucc.out] at HM
            obtain ⟨f4, f5, g4, g5⟩ := blk2 HX.out.b4
            have hzr := HX.out.size
            have hr3 : OwI wr W.heap.size (.slice au 3 capu) (rowP A B M s 3) := by
              have := ho.out
              unfold OwI
              rw [rowP_len]
              exact this
            have Hdl : Hid (Value.ownBlock (.slice (some ⟨gL, 0, none⟩) ls.length capL) = none ∨ Value.ownBlock (.slice (some ⟨gL, 0, none⟩) ls.length capL) ≠ vN.ownBlock) := by
              rcases Hd1.out with h | h
              · exact .inr (by rw [h]; simp [Value.ownBlock])
              · exact .inr (fun e => h e.symm)
            have HdN : Hid (Value.ownBlock (.slice (some ⟨gL, 0, none⟩) ls.length capL) ≠ vN.ownBlock) := Hdl.out.resolve_left (by simp [Value.ownBlock])
            have Hdr : Hid (∀ p ∈ ls, p.1.ownBlock = none ∨ p.1.ownBlock ≠ vN.ownBlock) := fun p hp => own_two (HL.out.rows p hp) HX.out.nx (by decide)
            go_wp2_with (
              refine appAt elInts (by decide) rfl (.tmp 103) (.tmp 105) rfl W.heap.size _ _ _ [.slice au 3 capu] wr rfl rfl rfl HX.out.nx rfl (by simp [Value.oneCell']) (by have := Hrl.out; omega) HX.out.size ?_
              intro v4 w4 ho4 hg4 hat4
              obtain ⟨a4, cap4, rfl, _⟩ := (ownFl ho4.out).shape
              have HXn := Lib.hid (HX.out.row (r := rowP A B M s 3) (by rw [rowP_len]; omega) hr3 Hne.out hg4 ho4.out)
              have HLn := HL.out.grow hg4 Hdl.out Hdr.out
              have b4 := blkGrow hg4 HX.out.b4 (own_cells' HX.out.nx HX.out.b4 (by decide))
              have HLm := Lib.hid (HLn.grow (grownSet w4 B9 0 (.slice a4 (rs.length + 1) cap4)) (.inr (own_cells' HLn.own b4 (by decide)).symm) (fun p hp => .inr (own_cells' (HLn.rows p hp) b4 (by decide)).symm))
              have Hd4 : Hid ((Value.slice a4 (rs.length + 1) cap4).ownBlock = none ∨ (Value.slice a4 (rs.length + 1) cap4).ownBlock ≠ Value.ownBlock (.slice (some ⟨gL, 0, none⟩) ls.length capL)) := by
                refine .inr (fun he => ?_)
                rcases hat4.out with h | h
                · exact HdN.out (he.symm.trans h)
                · have := (own_ge HL.out.own _ (he.symm.trans h)).2
                  omega
              obtain ⟨f4', f5', g4', g5'⟩ := blk2 b4
              clear b4 f4 f5 g4 g5 hat4 ho4 HLn)
            generalize w4.setCell ⟨B9, 0, none⟩ (.slice a4 (rs.length + 1) cap4) = w5 at *
            clear hg4 HX HL Hdl HdN Hdr f4' f5' g4' g5' ho hr3 Hne Hne2
            have Hrs2 : Hid ((rs ++ [(Value.slice au 3 capu, rowP A B M s 3)]).map (·.2) = rowsX (pn A B) (0, 0) (k + 1)) := by
              rw [rowsX_succ, Hrow.out, List.map_append, Hrs.out]; rfl
            obtain ⟨be, oe, e1, x1⟩ := H.out.mark HA.out Hps.out.1
            cases e1
            obtain ⟨be', oe', e1, y1⟩ := H'.out.mark HB.out Hps.out.2
            cases e1
            have hs1I : (s.1 : Int) < (A.2.length : Int) := by have := Hps.out.1; rw [HA.out.2.1]; omega
            have hs2I : (s.2 : Int) < (B.2.length : Int) := by have := Hps.out.2; rw [HB.out.2.1]; omega
            have hs1N : s.1 < A.2.length := by have := Hps.out.1; rw [HA.out.2.1]; omega
            have hs2N : s.2 < B.2.length := by have := Hps.out.2; rw [HB.out.2.1]; omega
            have Hpe : Hid (pe gBoth A B s = gBoth (de A s.1) (de B s.2)) := rfl
            rw [Hpe.out] at Hend
            clear Hpe
            generalize de A s.1 = x at *
            generalize de B s.2 = y at *
            replace HX := HXn
            replace HL := HLm
            clear HXn HLm
            obtain ⟨c0, c1, _, _⟩ := blk2 (blkBel HX.out.bel K4.out)
            obtain ⟨e0, e1, _, _⟩ := blk2 (blkBel HX.out.bel K5.out)
            obtain ⟨gr, cr, k1, k2, k3⟩ := HL.out.at hkl
            rw [Hst.out] at k2 k3
            have x1' := kpB (S := fun _ => True) HX.out.bel _ _ trivial x1
            have y1' := kpB (S := fun _ => True) HX.out.bel _ _ trivial y1
            go_wp2_with fail
            go_quiet (fail)
            have hbq : Below w5.heap.size w5 (w5.drewN nq) := belReflN _ _ _
            replace HX := Lib.hid (HX.out.stay hbq)
            replace HL := Lib.hid (HL.out.stay hbq)
            clear hbq c0 c1 e0 e1 k1 k2 k3 x1' y1'
            generalize w5.drewN nq = w6 at *
            obtain ⟨c0, c1, _, _⟩ := blk2 (blkBel HX.out.bel K4.out)
            obtain ⟨e0, e1, _, _⟩ := blk2 (blkBel HX.out.bel K5.out)
            obtain ⟨gr, cr, k1, k2, k3⟩ := HL.out.at hkl
            rw [Hst.out] at k2 k3
            have x1' := kpB (S := fun _ => True) HX.out.bel _ _ trivial x1
            have y1' := kpB (S := fun _ => True) HX.out.bel _ _ trivial y1
            go_wp2_with fail
            go_quiet (fail)
            have hbq : Below w6.heap.size w6 (w6.drewN nq) := belReflN _ _ _
            replace HX := Lib.hid (HX.out.stay hbq)
            replace HL := Lib.hid (HL.out.stay hbq)
            clear hbq c0 c1 e0 e1 k1 k2 k3 x1' y1'
            generalize w6.drewN nq = w7 at *
            obtain ⟨aE, capE, rfl, _⟩ := (ownFl HX.out.en).shape
            obtain ⟨f4, f5, g4, g5⟩ := blk2 HX.out.b4
            have hz7 := HX.out.size
            obtain ⟨q, hq⟩ : ∃ q, q = gBoth x y := ⟨_, rfl⟩
            have Hes2 : Hid (es ++ [q] = endsX (pn A B) (pe gBoth A B) (0, 0) (k + 1)) := by rw [endsX_succ, Hend.out, ← Hes.out, hq]; rfl
            have HM3 : Hid (ls.map (·.2) = rnd (pn A B) (0, 0) (k + 1)) := HM.out
            have hk40 : k + 1 ≤ 40 := by
              have := Hk40.out
              omega
            have Hdd := Hd4
            clear Hend HM Hd1 Hd4
            have Hel2 : Hid (Value.ownBlock (.slice (some ⟨gL, 0, none⟩) ls.length capL) = none ∨ Value.ownBlock (.slice (some ⟨gL, 0, none⟩) ls.length capL) ≠ Value.ownBlock (.slice aE es.length capE)) := own_two HL.out.own HX.out.en (by decide)
            have Her2 : Hid (∀ p ∈ ls, p.1.ownBlock = none ∨ p.1.ownBlock ≠ Value.ownBlock (.slice aE es.length capE)) := fun p hp => own_two (HL.out.rows p hp) HX.out.en (by decide)
            clear hn hm1 hn' hm1' HPM Hnd Hs Hsucc Hrow HMe Hpre Hnd2 Hsuc HM2 Hlm Hst Hk40 Hrl hs1I hs2I hs1N hs2N x1 y1 Hrs Hes hll hlsI hkI hgL
            have Hq := Lib.hid hq
            clear hq
            cases x <;> cases y
            all_goals (
              go_wp2_with (
                refine appAt elBool (by decide) rfl (.tmp 129) (.tmp 168) rfl W.heap.size _ _ _ [_] w7 rfl rfl rfl HX.out.en rfl (by simp [Value.oneCell']) (by have := Hel.out; omega) HX.out.size ?_
                intro v8 w8 ho8 hg8 hat8
                obtain ⟨a8, cap8, rfl, _⟩ := (ownFl ho8.out).shape
                have HXn := Lib.hid (HX.out.mark hg8 ho8.out)
                have HLn := HL.out.grow hg8 Hel2.out Her2.out
                have b4 := blkGrow hg8 HX.out.b4 (own_cells' HX.out.en HX.out.b4 (by decide))
                have HLm := Lib.hid (HLn.grow (grownSet w8 B9 1 (.slice a8 (es.length + 1) cap8)) (.inr (own_cells' HLn.own b4 (by decide)).symm) (fun p hp => .inr (own_cells' (HLn.rows p hp) b4 (by decide)).symm))
                obtain ⟨f4', f5', g4', g5'⟩ := blk2 b4
                clear b4 f4 f5 g4 g5 hat8 ho8 HLn hg8)
              go_roundw
              case rel => exact ⟨k + 1, ls, _, _, _, hk40, by omega, by go_num, HM3, Hrs2, by rw [← Hes2.out, Hq.out]; exact HXn, HLm, Hdd⟩
              case measure => simp [intOf]; omega)
    · obtain rfl : k = ls.length := by omega
      have hkk : (rnd (pn A B) (0, 0) ls.length).length = ls.length := Hlen.out.symm
      have Hall := explored_all (pn A B) (pe gBoth A B) (0, 0) hkk
      have Hrl : rs.length = ls.length := by have := congrArg List.length Hrs.out; rw [rowsX_len] at this; simpa using this
      have hd := (HX.out.dfa (by omega) (by rw [endsX_len]; omega)).rd
      rw [Hrs.out, ← Hall] at hd
      obtain ⟨aN, cN, aE, cE, rfl, rfl, _, _⟩ := hd.shapes
      have HD := Lib.hid hd
      have Hkk := Lib.hid hkk
      have hbel := HX.out.bel
      have KR := Lib.hid (blkBel hbel K6.out)
      have HBR := Lib.hid (Hb0.out.trans (hbel.mono Hb0.out.size))
      obtain ⟨z0, z1, y0, y1⟩ := blk2 KR.out
      obtain ⟨f4, f5, g4, g5⟩ := blk2 HX.out.b4
      have hle : (ls.length : Int) ≤ 40 := by omega
      have hnk : ¬ ((ls.length : Int) < (ls.length : Int)) := by omega
      clear HX HL Hall Hrl hd hkk hlt Hrs HM Hlen Hd1 hbel
      obtain ⟨X, hX⟩ : ∃ X, X = autD (pn A B) (pe gBoth A B) (rnd (pn A B) (0, 0) ls.length) := ⟨_, rfl⟩
      have HXe := Lib.hid hX
      rw [← hX] at HD f4 f5
      clear hX
      go_wp2
      have f0 := cell_setOther (o := 1) (u := .slice aE X.2.length cE) (cell_setSame (u := .slice aN X.1.length cN) z0) (by omega)
      have f1 := cell_setSame (u := .slice aE X.2.length cE) (cell_setOther (o := 0) (u := .slice aN X.1.length cN) z1 (by omega))
      refine bodyPost_ret (v := .tuple #[.agg #[.slice aN X.1.length cN, .slice aE X.2.length cE], .bool true]) (by simp [results, Try.results189, go_sem, f0, f1]) rfl ?_
      refine ⟨_, _, _, rfl, (HBR.out.setCell (by show w.heap.size ≤ w.heap.size + 2; omega) _).setCell (by show w.heap.size ≤ w.heap.size + 2; omega) _, .inl ⟨rfl, ls.length, Hkk.out, hk, ?_⟩⟩
      rw [← HXe.out]
      refine DfaR.mono (T := fun b => w.heap.size ≤ b) (HD.out.stay (fun ad v s e => ?_)) (fun b s => by have h0 := s.1.1; have h1 := hzW3.out; omega)
      have h0 := s.1.1
      have h1 := hzW3.out
      have hne : ad.block ≠ w.heap.size + 2 := by omega
      exact kpSet ad v hne (kpSet ad v hne e)
end Go.Proofs.Ytcbhfopabgiiiaa
