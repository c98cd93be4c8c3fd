/- The first word of two automata side by side: the reference's, mode 3. -/
import Derived.Test.YtebcnamfpajneaaFsa
set_option linter.unusedSimpArgs false
set_option linter.unusedVariables false
set_option linter.unusedSectionVars false
namespace Go.Proofs.Ytebcnamfpajneaa
open Go.RowKit
set_option maxRecDepth 100000
variable {S T : Nat → Prop}
set_option maxHeartbeats 8000000 in
theorem l16First3_c (vn ve un ue : Value) (A B : DfaD) (w : World) (h : DfaR S w vn ve A) (h' : DfaR T w un ue B) (hA : okD A) (hB : okD B) :
    Calls Try.prog 77 #[.agg #[vn, ve], .agg #[un, ue], .int .i64 3] w (RO w (.tuple #[.string (fstW (lg (pn A B) (pe gApart A B) (0, 0))), .bool (fwB (lg (pn A B) (pe gApart A B) (0, 0)))])) := by
  obtain ⟨a, ca, b, d, rfl, rfl, hn, hm1⟩ := h.shapes
  obtain ⟨a', ca', b', d', rfl, rfl, hn', hm1'⟩ := h'.shapes
  obtain ⟨W, hW⟩ : ∃ W, W = (w.alloc (.cells #[.slice a A.1.length ca, .slice b A.2.length d] 26)).alloc (.cells #[.slice a' B.1.length ca', .slice b' B.2.length d'] 26) := ⟨_, rfl⟩
  have Hb0 : Hid (Below w.heap.size w W) := by rw [hW]; exact ((Below.refl _ _).alloc (Nat.le_refl _) _).alloc (by simp) _
  have K4 : Hid (W.heap[w.heap.size]? = some (.cells #[.slice a A.1.length ca, .slice b A.2.length d] 26 (0, 0))) := by rw [hW]; exact blkOld (blkNew _ _ rfl)
  have K5 : Hid (W.heap[w.heap.size + 1]? = some (.cells #[.slice a' B.1.length ca', .slice b' B.2.length d'] 26 (0, 0))) := by rw [hW]; exact blkNew _ _ (by simp)
  have hzW := (Array.getElem?_eq_some_iff.1 K5.out).1
  have H := Lib.hid (h.stay (kpB Hb0.out))
  have H' := Lib.hid (h'.stay (kpB Hb0.out))
  have HW := Lib.hid hW
  clear h h' hW
  obtain ⟨W4, hW4⟩ : ∃ W4, W4 = ((W.alloc (.cells #[.int .i64 0, .int .i64 0] 3)).alloc (.cells #[.slice (some ⟨W.heap.size, 0, none⟩) 2 2] 30)).alloc (.cells #[.string ⟨#[]⟩] 9) := ⟨_, rfl⟩
  have hzW3 : Hid (W.heap.size = w.heap.size + 2) := by rw [HW.out]; simp [Hid]
  have hb4 : Below W.heap.size W W4 := by rw [hW4]; exact (((Below.refl _ _).alloc (Nat.le_refl _) _).alloc (by simp) _).alloc (by simp; omega) _
  have HL0 : Hid (LS W.heap.size [(.slice (some ⟨W.heap.size, 0, none⟩) 2 2, (0, 0))] (.slice (some ⟨W.heap.size + 1, 0, none⟩) 1 1) W4) := by
    have h1 : (W.alloc (.cells #[.int .i64 0, .int .i64 0] 3)).ownsRow W.heap.size 3 1 (.slice (some ⟨W.heap.size, 0, none⟩) 2 2) 2 [.int .i64 ((0 : Nat) : Int), .int .i64 ((0 : Nat) : Int)] := ownLit (n := 2) [.int .i64 0, .int .i64 0] (Nat.le_refl _) (by omega) rfl
    have h2 : ((W.alloc (.cells #[.int .i64 0, .int .i64 0] 3)).alloc (.cells #[.slice (some ⟨W.heap.size, 0, none⟩) 2 2] 30)).ownsRow W.heap.size 30 1 (.slice (some ⟨W.heap.size + 1, 0, none⟩) 1 1) 1 [.slice (some ⟨W.heap.size, 0, none⟩) 2 2] := by
      have := ownLit (w := W.alloc (.cells #[.int .i64 0, .int .i64 0] 3)) (base := W.heap.size) (e := 30) (sz := 1) (n := 1) [.slice (some ⟨W.heap.size, 0, none⟩) 2 2] (by simp) (by omega) rfl
      rw [World.size_alloc] at this
      exact this
    rw [hW4]
    refine ⟨h2.alloc _, fun p hp => ?_⟩
    simp at hp
    subst hp
    exact (h1.alloc _).alloc _
  have HS0 : Hid (W4.ownsRow W.heap.size 9 1 (.slice (some ⟨W.heap.size + 1 + 1, 0, none⟩) 1 1) 1 (wcl (pn A B) [(0, 0)])) := by
    rw [hW4]
    have := ownLit (w := (W.alloc (.cells #[.int .i64 0, .int .i64 0] 3)).alloc (.cells #[.slice (some ⟨W.heap.size, 0, none⟩) 2 2] 30)) (base := W.heap.size) (e := 9) (sz := 1) (n := 1) [.string ⟨#[]⟩] (by simp; omega) (by omega) rfl
    rw [World.size_alloc, World.size_alloc] at this
    rw [wcl_zero]
    exact this
  have HW4 := Lib.hid hW4
  have HA := Lib.hid hA
  have HB := Lib.hid hB
  have hA40 := hA.1.2
  have hB40 := hB.1.2
  obtain ⟨c0, c1, _, _⟩ := blk2 K4.out
  obtain ⟨e0, e1, _, _⟩ := blk2 K5.out
  rw [HW.out] at c0 c1 e0 e1
  clear hW4 hA hB
  go_enter Try.func77, Try.ntmps77
  go_wp2_with fail
  clear c0 c1 e0 e1
  rw [← HW.out]
  try rw [← hzW3.out]
  try rw [← HW4.out]
  clear HW4
  go_loopw [8, 9, 10] (fun v8 v9 i wr => ∃ (k : Nat) (ls : List (Value × (Nat × Nat))), k ≤ ls.length ∧ ls.length ≤ 1600 ∧ i = .int .i64 k ∧ Hid (ls.map (·.2) = rnd (pn A B) (0, 0) k) ∧ Hid (LS W.heap.size ls v8 wr) ∧
    Hid (wr.ownsRow W.heap.size 9 1 v9 ls.length (wcl (pn A B) (ls.map (·.2)))) ∧ Hid (Below W.heap.size W wr) ∧ Hid (∀ j (h : j < (rnd (pn A B) (0, 0) k).length), j < k → pe gApart A B (rnd (pn A B) (0, 0) k)[j] = false)) (fun _ _ i _ => 1601 - (intOf i).toNat)
  case atStart => exact ⟨0, [(.slice (some ⟨W.heap.size, 0, none⟩) 2 2, (0, 0))], by omega, by simp, rfl, rfl, HL0, HS0, hb4, fun j _ hj => absurd hj (Nat.not_lt_zero _)⟩
  case round =>
    clear HL0 HS0 hb4
    obtain ⟨k, ls, hkl, hl16, rfl, HM, HL, HS, HBl, Hno⟩ := hrel
    have hl1 : 0 < ls.length := by
      have h1 := rnd_pos (pn A B) (0, 0) k
      have h2 := congrArg List.length HM.out
      rw [List.length_map] at h2
      omega
    obtain ⟨gL, capL, rfl, hgL, _, _⟩ := own_some HL.out.own hl1
    obtain ⟨gS, capS, rfl, hgS, _, _⟩ := own_some HS.out hl1
    have Hlen : Hid (ls.length = (rnd (pn A B) (0, 0) k).length) := by have := congrArg List.length HM.out; unfold Hid; simpa using this
    have hlenI : (ls.length : Int) ≤ 1600 := by omega
    by_cases hlt : k < ls.length
    · have hkI : (k : Int) < (ls.length : Int) := by omega
      have hltr : k < (rnd (pn A B) (0, 0) k).length := by have := Hlen.out; omega
      have Hsucc := Lib.hid (rnd_succ_some (pn A B) hltr)
      have Hnd := Lib.hid (rnd_nodup (pn A B) (0, 0) k)
      have HPM := Lib.hid (rnd_all (pn A B) (P := pst A B) (pst_zero HA.out HB.out) (fun s hs => ⟨pst_step HA.out HB.out s hs 0 (by omega), pst_step HA.out HB.out s hs 1 (by omega), pst_step HA.out HB.out s hs 2 (by omega)⟩) k)
      obtain ⟨s, hs⟩ : ∃ s, s = (rnd (pn A B) (0, 0) k)[k] := ⟨_, rfl⟩
      have Hsk := Lib.hid hs
      have Hs := Lib.hid (show (rnd (pn A B) (0, 0) k)[k]? = some s by rw [hs]; exact List.getElem?_eq_getElem hltr)
      have Hps : Hid (pst A B s) := by rw [hs]; exact HPM.out _ (List.getElem_mem _)
      rw [← hs] at Hsucc
      clear hs
      have Hst : Hid ((ls[k]).2 = s) := by
        have h1 := Hs.out
        rw [← HM.out, List.getElem?_map, List.getElem?_eq_getElem hlt] at h1
        injection h1
      have hs1N : s.1 < A.1.length := Hps.out.1
      have hs2N : s.2 < B.1.length := Hps.out.2
      obtain ⟨be, oe, e1, x1⟩ := H.out.mark HA.out hs1N
      cases e1
      obtain ⟨be', oe', e1, y1⟩ := H'.out.mark HB.out hs2N
      cases e1
      have hs1I : (s.1 : Int) < (A.2.length : Int) := by have := HA.out.2.1; omega
      have hs2I : (s.2 : Int) < (B.2.length : Int) := by have := HB.out.2.1; omega
      have hs1J : (s.1 : Int) < (A.1.length : Int) := by omega
      have hs2J : (s.2 : Int) < (B.1.length : Int) := by omega
      have hs1M : s.1 < A.2.length := by have := HA.out.2.1; omega
      have hs2M : s.2 < B.2.length := by have := HB.out.2.1; omega
      obtain ⟨x, hx⟩ : ∃ x, x = de A s.1 := ⟨_, rfl⟩
      obtain ⟨y, hy⟩ : ∃ y, y = de B s.2 := ⟨_, rfl⟩
      rw [← hx] at x1
      rw [← hy] at y1
      have Hpe : Hid (pe gApart A B s = gApart x y) := by rw [hx, hy]; rfl
      clear hx hy
      obtain ⟨c0, c1, _, _⟩ := blk2 (blkBel HBl.out K4.out)
      obtain ⟨gr, cr, k1, k2, k3⟩ := HL.out.at hlt
      rw [Hst.out] at k2 k3
      have x1' := kpB (S := fun _ => True) HBl.out _ _ trivial x1
      go_wp2_with fail
      go_quiet (fail)
      have hbq : Below wr.heap.size wr (wr.drewN nq) := belReflN _ _ _
      replace HBl := Lib.hid (HBl.out.trans (hbq.mono HBl.out.size))
      replace HL := Lib.hid (HL.out.stay hbq)
      replace HS := Lib.hid (ownStay HS.out hbq)
      clear hbq c0 c1 k1 k2 k3 x1'
      generalize wr.drewN nq = w6 at *
      obtain ⟨e0, e1, _, _⟩ := blk2 (blkBel HBl.out K5.out)
      obtain ⟨gr, cr, k1, k2, k3⟩ := HL.out.at hlt
      rw [Hst.out] at k2 k3
      have y1' := kpB (S := fun _ => True) HBl.out _ _ trivial y1
      go_wp2_with fail
      go_quiet (fail)
      have hbq : Below w6.heap.size w6 (w6.drewN nq) := belReflN _ _ _
      replace HBl := Lib.hid (HBl.out.trans (hbq.mono HBl.out.size))
      replace HL := Lib.hid (HL.out.stay hbq)
      replace HS := Lib.hid (ownStay HS.out hbq)
      clear hbq e0 e1 k1 k2 k3 y1'
      generalize w6.drewN nq = w7 at *
      by_cases hend : gApart x y = true
      · have hfin : Hid (hasW (lg (pn A B) (pe gApart A B) (0, 0)) ∧ fstW (lg (pn A B) (pe gApart A B) (0, 0)) = wS (fk (pn A B) (0, 0) s)) := by
          have := fst_yes (pn A B) (pe gApart A B) (0, 0) hltr (fun j hj hjk => Hno.out j hj hjk) (by rw [← Hsk.out, Hpe.out]; exact hend)
          rw [← Hsk.out] at this
          exact this
        have hBf := Lib.hid (Hb0.out.trans (HBl.out.mono Hb0.out.size))
        have d9 : w7.cell? ⟨gS, k, none⟩ = some (.string (wS (fk (pn A B) (0, 0) s))) := by
          rw [HS.out.cellAt k (by omega), wcl_at, HM.out, Hs.out]; rfl
        have hfv := Lib.hid (show fwB (lg (pn A B) (pe gApart A B) (0, 0)) = true from pb_true hfin.out.1)
        clear HL HS
        generalize wS (fk (pn A B) (0, 0) s) = q1 at *
        cases x <;> cases y <;> first | (exact absurd hend (by decide)) | skip
        all_goals
          clear hend
          go_wp2
          go_ret2
          rw [hfin.out.2, hfv.out]
          exact ⟨rfl, hBf.out⟩
      · have hend' : gApart x y = false := by simpa using hend
        have Hno1 := Lib.hid (Hpe.out.trans hend')
        clear Hpe hend
        obtain rfl : x = y := by cases x <;> cases y <;> simp_all [gApart]
        have hbz := bneSelf x
        all_goals
          try clear hend'
          go_wp2_with fail
          have Hk1 : Hid (k < (rnd (pn A B) (0, 0) k).length) := by have := Hlen.out; unfold Hid; omega
          go_loopw [8, 9, 13] (fun v8 v9 i wr => ∃ (c : Nat) (ls : List (Value × (Nat × Nat))), c ≤ 3 ∧ i = .int .i64 c ∧ Hid (ls.map (·.2) = visN (pn A B) (rnd (pn A B) (0, 0) k) s c) ∧ ls.length ≤ 1600 ∧ Hid (LS W.heap.size ls v8 wr) ∧
            Hid (wr.ownsRow W.heap.size 9 1 v9 ls.length (wcl (pn A B) (ls.map (·.2)))) ∧ Hid (Below W.heap.size W wr)) (fun _ _ i _ => 3 - (intOf i).toNat)
          case atStart => exact ⟨0, ls, by omega, rfl, HM, hl16, HL, HS, HBl⟩
          case round =>
            clear HL HS HBl hkl hlt hkI Hst hl16 hlenI hl1 HM Hlen
            obtain ⟨c, ls, hc, rfl, HM, hl16, HL, HS, HBl⟩ := hrel
            have Hpre : Hid (rnd (pn A B) (0, 0) k <+: visN (pn A B) (rnd (pn A B) (0, 0) k) s c) := visN_pre (pn A B) _ s (Nat.zero_le c)
            have Hnd2 := Lib.hid (visN_nodup (pn A B) s Hnd.out c)
            have Hsuc : Hid (visN (pn A B) (rnd (pn A B) (0, 0) k) s (c + 1) = vis (visN (pn A B) (rnd (pn A B) (0, 0) k) s c) (pn A B s c)) := rfl
            have hfew : c < 3 → (visN (pn A B) (rnd (pn A B) (0, 0) k) s (c + 1)).length ≤ 1600 := fun hc3 => by
              have h1 := (visN_pre (pn A B) (rnd (pn A B) (0, 0) k) s (show c + 1 ≤ 3 by omega)).length_le
              rw [visN_three, ← Hsucc.out] at h1
              have := pair_few HA.out HB.out (k + 1)
              omega
            have Hfew := Lib.hid hfew
            clear hfew
            have hnf : Hid (c < 3 → pn A B s c ∉ visN (pn A B) (rnd (pn A B) (0, 0) k) s c → wS (fk (pn A B) (0, 0) (pn A B s c)) = wS (fk (pn A B) (0, 0) s) ++ lt c) := fun hc3 hn => by
              have h1 := fk_new (pn A B) (0, 0) Hk1.out hc3
              rw [← Hsk.out] at h1
              exact h1 hn
            have hsz : Hid ((wS (fk (pn A B) (0, 0) s)).size ≤ 1600) := by
              have h1 := fk_size (pn A B) (0, 0) k s (by rw [Hsk.out]; exact List.getElem_mem _)
              have := pair_few HA.out HB.out k
              unfold Hid
              omega
            obtain ⟨M2, hM2⟩ : ∃ M2, M2 = visN (pn A B) (rnd (pn A B) (0, 0) k) s c := ⟨_, rfl⟩
            have HM2 := Lib.hid hM2
            rw [← hM2] at HM Hpre Hnd2 Hsuc hnf
            clear hM2
            have Hlm : Hid (M2.length = ls.length) := by have := congrArg List.length HM.out; unfold Hid; simpa using this.symm
            have hkl : k < ls.length := by
              have h1 := Hpre.out.length_le
              have h2 := Hk1.out
              have h3 := Hlm.out
              omega
            have hkI : (k : Int) < (ls.length : Int) := by omega
            have hlsI : (ls.length : Int) ≤ 1600 := by omega
            obtain ⟨gL, capL, rfl, hgL, _, _⟩ := own_some HL.out.own (by omega)
            obtain ⟨gS, capS, rfl, hgS, _, _⟩ := own_some HS.out (by omega)
            have Hst : Hid ((ls[k]).2 = s) := by
              obtain ⟨r, hr⟩ := Hpre.out
              have h1 : M2[k]? = some s := by rw [← hr, List.getElem?_append_left Hk1.out]; exact Hs.out
              rw [← HM.out, List.getElem?_map, List.getElem?_eq_getElem hkl] at h1
              injection h1
            have Hs2 : Hid (M2[k]? = some s) := by
              obtain ⟨r, hr⟩ := Hpre.out
              rw [← hr, List.getElem?_append_left Hk1.out]; exact Hs.out
            by_cases hc3 : c < 3
            · obtain ⟨bn, on, br, or_, cx, e1, x1, x2, x3⟩ := H.out.step HA.out Hps.out.1 hc3
              cases e1
              obtain ⟨bn', on', br', or', cx', e1, y1, y2, y3⟩ := H'.out.step HB.out Hps.out.2 hc3
              cases e1
              have hcI : (c : Int) < 3 := by omega
              have Htn : Hid (pn A B s c = (dn A s.1 c, dn B s.2 c)) := rfl
              replace hnf := Lib.hid (hnf.out hc3)
              have hfew := Hfew.out hc3
              rw [show visN (pn A B) (rnd (pn A B) (0, 0) k) s (c + 1) = vis M2 (pn A B s c) from Hsuc.out] at hfew
              obtain ⟨t, ht⟩ : ∃ t, t = pn A B s c := ⟨_, rfl⟩
              rw [← ht] at Htn Hsuc hnf hfew
              clear ht
              have hu' : ∃ u, u = dn A s.1 c := ⟨_, rfl⟩
              obtain ⟨u, hu⟩ := hu'
              have hu' : ∃ u, u = dn B s.2 c := ⟨_, rfl⟩
              obtain ⟨u', hu'⟩ := hu'
              rw [← hu, ← hu'] at Htn
              rw [← hu] at x2
              rw [← hu'] at y2
              clear hu hu' x3 y3
              obtain ⟨c0, c1, _, _⟩ := blk2 (blkBel HBl.out K4.out)
              obtain ⟨e0, e1, _, _⟩ := blk2 (blkBel HBl.out K5.out)
              obtain ⟨gr, cr, k1, k2, k3⟩ := HL.out.at hkl
              rw [Hst.out] at k2 k3
              have x1' := kpB (S := fun _ => True) HBl.out _ _ trivial x1
              have x2' := kpB (S := fun _ => True) HBl.out _ _ trivial x2
              have y1' := kpB (S := fun _ => True) HBl.out _ _ trivial y1
              have y2' := kpB (S := fun _ => True) HBl.out _ _ trivial y2
              go_wp2_with fail
              go_still_tail 26, (by kernel_rfl)
              change wpList _ _ _ _ _ wr.drew
              have hbq : Below wr.heap.size wr wr.drew := (Below.refl _ _).drew
              replace HBl := Lib.hid (HBl.out.trans (hbq.mono HBl.out.size))
              replace HL := Lib.hid (HL.out.stay hbq)
              replace HS := Lib.hid (ownStay HS.out hbq)
              clear hbq c0 c1 e0 e1 k1 k2 k3 x1' x2' y1' y2'
              generalize wr.drew = w8 at *
              obtain ⟨W9, hW9⟩ : ∃ W9, W9 = w8.alloc (.cells #[.int .i64 ((u : Nat) : Int), .int .i64 ((u' : Nat) : Int)] 3) := ⟨_, rfl⟩
              have hb9 : Below w8.heap.size w8 W9 := by rw [hW9]; exact (Below.refl _ _).alloc (Nat.le_refl _) _
              have hzb := HBl.out.size
              have huA : Hid (W9.ownsRow W.heap.size 3 1 (.slice (some ⟨w8.heap.size, 0, none⟩) 2 2) 2 [.int .i64 ((t.1 : Nat) : Int), .int .i64 ((t.2 : Nat) : Int)]) := by
                rw [Htn.out, hW9]
                exact ownLit (n := 2) [.int .i64 ((u : Nat) : Int), .int .i64 ((u' : Nat) : Int)] hzb (by omega) rfl
              replace HBl := Lib.hid (HBl.out.trans (hb9.mono HBl.out.size))
              replace HL := Lib.hid (HL.out.stay hb9)
              replace HS := Lib.hid (ownStay HS.out hb9)
              have HW9 := Lib.hid hW9
              clear hW9 hb9
              go_wp2_with fail
              rw [← HW9.out]
              generalize w8.heap.size = B14 at *
              clear HW9
              go_loopw [15, 16] (fun v15 i wr => ∃ (j : Nat) (fr : Bool), j ≤ ls.length ∧ v15 = .bool fr ∧ i = .int .i64 j ∧ Hid (frs M2 t j fr) ∧ Hid (Below W9.heap.size W9 wr)) (fun _ i _ => ls.length - (intOf i).toNat)
              case atStart => exact ⟨0, true, by omega, rfl, rfl, frs_start M2 t, Below.refl _ _⟩
              case round =>
                obtain ⟨j, fr, hj, rfl, rfl, hf, hb⟩ := hrel
                by_cases hjl : j < ls.length
                · have hjI : (j : Int) < (ls.length : Int) := by omega
                  have hjM : j < M2.length := by rw [Hlm.out]; exact hjl
                  cases fr
                  · have hf2 := Lib.hid (frs_off hf.out)
                    go_wp2_with fail
                    go_quiet (fail)
                    have hb2 := Lib.hid (hb.out.trans ((belReflN wr.heap.size wr nq).mono hb.out.size))
                    go_wp2
                    go_roundw
                    case rel => exact ⟨j + 1, false, by omega, rfl, by go_num, hf2, hb2⟩
                    case measure => simp [intOf]; omega
                  · obtain ⟨gr2, cr2, q1, q2, q3⟩ := (HL.out.stay hb.out).at hjl
                    have hMj : M2[j] = (ls[j]).2 := by
                      have h1 : (ls.map (·.2))[j]? = M2[j]? := by rw [HM.out]
                      rw [List.getElem?_map, List.getElem?_eq_getElem hjl, List.getElem?_eq_getElem hjM] at h1
                      injection h1 with h1
                      exact h1.symm
                    have hur := ownStay huA.out hb.out
                    have n0 := hur.cellAt 0 (by omega)
                    have n1 := hur.cellAt 1 (by omega)
                    rw [Htn.out] at n0 n1
                    simp only [List.getElem?_cons_zero, List.getElem?_cons_succ] at n0 n1
                    obtain ⟨p, hp⟩ : ∃ p, p = (ls[j]).2 := ⟨_, rfl⟩
                    rw [← hp] at q2 q3 hMj
                    clear hp hur
                    obtain ⟨p1, p2⟩ := p
                    dsimp only at q2 q3
                    by_cases h1 : p1 = u
                    · subst h1
                      have b1 := bneT p1
                      by_cases h2 : p2 = u'
                      · subst h2
                        have b2 := bneT p2
                        have hf2 := Lib.hid (frs_hit hjM (t := t) (by rw [hMj, Htn.out]))
                        clear hMj
                        go_wp2_with fail
                        go_quiet (fail)
                        have hb2 := Lib.hid (hb.out.trans ((belReflN wr.heap.size wr nq).mono hb.out.size))
                        clear q1 q2 q3 n0 n1
                        go_wp2
                        go_roundw
                        case rel => exact ⟨j + 1, false, by omega, rfl, by go_num, hf2, hb2⟩
                        case measure => simp [intOf]; omega
                      · have b2 := bneF h2
                        have hf2 := Lib.hid (frs_no hf.out hjM (by rw [hMj, Htn.out]; exact fun e => h2 (by injection e)))
                        clear h2 hMj
                        go_wp2_with fail
                        go_quiet (fail)
                        have hb2 := Lib.hid (hb.out.trans ((belReflN wr.heap.size wr nq).mono hb.out.size))
                        clear q1 q2 q3 n0 n1
                        go_wp2
                        go_roundw
                        case rel => exact ⟨j + 1, true, by omega, rfl, by go_num, hf2, hb2⟩
                        case measure => simp [intOf]; omega
                    · have b1 := bneF h1
                      have hf2 := Lib.hid (frs_no hf.out hjM (by rw [hMj, Htn.out]; exact fun e => h1 (by injection e)))
                      clear h1 hMj
                      go_wp2_with fail
                      go_quiet (fail)
                      have hb2 := Lib.hid (hb.out.trans ((belReflN wr.heap.size wr nq).mono hb.out.size))
                      clear q1 q2 q3 n0 n1
                      go_wp2
                      go_roundw
                      case rel => exact ⟨j + 1, true, by omega, rfl, by go_num, hf2, hb2⟩
                      case measure => simp [intOf]; omega
                · obtain rfl : j = ls.length := by omega
                  have hnk : ¬ ((ls.length : Int) < (ls.length : Int)) := by omega
                  have hfe := hf.out
                  rw [← Hlm.out] at hfe
                  have hfe := frs_end hfe
                  replace HBl := Lib.hid (HBl.out.trans (hb.out.mono HBl.out.size))
                  replace HL := Lib.hid (HL.out.stay hb.out)
                  replace HS := Lib.hid (ownStay HS.out hb.out)
                  replace huA := Lib.hid (ownStay huA.out hb.out)
                  clear hf hb
                  cases fr
                  · have hm : t ∈ M2 := Classical.byContradiction fun hn => by have := hfe.2 hn; cases this
                    have Hv : Hid (vis M2 t = M2) := vis_old hm
                    rw [Hv.out, ← HM.out] at Hsuc
                    clear hfe hm
                    go_wp2
                    go_roundw
                    case rel => exact ⟨c + 1, ls, by omega, by go_num, Lib.hid Hsuc.out.symm, hl16, HL, HS, HBl⟩
                    case measure => simp [intOf]; omega
                  · have hm : t ∉ M2 := hfe.1 rfl
                    have Hv : Hid (vis M2 t = M2 ++ [t]) := vis_new hm
                    replace hnf := Lib.hid (hnf.out hm)
                    rw [vis_new hm, List.length_append, List.length_singleton, Hlm.out] at hfew
                    have HM' : Hid ((ls ++ [(Value.slice (some ⟨B14, 0, none⟩) 2 2, t)]).map (·.2) = visN (pn A B) (rnd (pn A B) (0, 0) k) s (c + 1)) := by
                      rw [Hsuc.out, Hv.out, List.map_append, HM.out]; rfl
                    have HQ : Hid (wcl (pn A B) ((ls ++ [(Value.slice (some ⟨B14, 0, none⟩) 2 2, t)]).map (·.2)) = wcl (pn A B) (ls.map (·.2)) ++ [.string (wS (fk (pn A B) (0, 0) s) ++ lt c)]) := by
                      rw [List.map_append, ← hnf.out]; exact wcl_add _ _ _
                    have hzb := HBl.out.size
                    have Hd9 : Hid ((wcl (pn A B) (ls.map (·.2)))[k]? = some (.string (wS (fk (pn A B) (0, 0) s)))) := by rw [wcl_at, HM.out, Hs2.out]; rfl
                    have hsq := hsz.out
                    obtain ⟨q1, hq1⟩ : ∃ q, q = wS (fk (pn A B) (0, 0) s) := ⟨_, rfl⟩
                    rw [← hq1] at HQ Hd9 hsq
                    clear hfe hm hq1 hnf
                    go_wp2_with (
                      refine appAt elInts (by decide) rfl (.tmp 138) (.tmp 140) rfl W.heap.size _ _ _ [.slice (some ⟨B14, 0, none⟩) 2 2] wr rfl rfl rfl HL.out.own rfl (by simp [Value.oneCell']) (by omega) hzb ?_
                      intro v10 w10 ho10 hg10 hat10
                      have HL10 := Lib.hid (HL.out.add huA.out hg10 ho10.out)
                      have HS10 := Lib.hid (HS.out.kept hg10 (own_two HS.out HL.out.own (by decide)))
                      have HB10 := Lib.hid (HBl.out.grown hg10 HBl.out.size (fun b hb => (own_ge HL.out.own b hb).1))
                      clear hat10 hg10 ho10)
                    have d9 : w10.cell? ⟨gS, k, none⟩ = some (.string q1) := by rw [HS10.out.cellAt k (by omega), Hd9.out]
                    have hls1 : (lt c).size ≤ 1 := Nat.le_refl _
                    have hcc : ¬ (9223372036854775807 < q1.size + (lt c).size) := by omega
                    have hgSl : gS < w10.heap.size := (own_ge HS10.out gS rfl).2
                    have hzw := HB10.out.size
                    have HSD : Hid (w10.drew.ownsRow W.heap.size 9 1 (.slice (some ⟨gS, 0, none⟩) ls.length capS) ls.length (wcl (pn A B) (ls.map (·.2)))) := ownStay HS10.out ((Below.refl _ _).drew)
                    clear HL HS HBl huA
                    have hw1 : IntKind.i64.wrap (97 + (c : Int)) = 97 + (c : Int) := IntWalk.i64_in _ (by omega)
                    have hw2 := u8w c hc3
                    have hcv := byteLt w10 c hc3
                    have hbA : Below w10.heap.size w10 (((w10.alloc (.cells #[.int .u8 (97 + (c : Int))] 5)).alloc (.cells #[.string (q1 ++ lt c)] 9)).drew) := (((Below.refl _ _).alloc (Nat.le_refl _) _).alloc (by simp) _).drew
                    have hzA : w10.heap.size ≤ (((w10.alloc (.cells #[.int .u8 (97 + (c : Int))] 5)).alloc (.cells #[.string (q1 ++ lt c)] 9)).drew).heap.size := hbA.size
                    go_region_law (refine stepAppAt elStr (by decide) rfl (.tmp 142) (.tmp 153) rfl W.heap.size _ _ _ [.string (q1 ++ lt c)] _ (w10.heap.size + 1) rfl rfl (by exact ownStay HS10.out hbA) (by exact blkNew _ _ (by simp)) rfl (by simp [Value.oneCell']) (by omega) (by exact Nat.le_trans hzw hzA) ?_
                                   intro g7 cap7 w7 ho7 hg7 hat7
                                   have hg8 : w10.grownBy w7 _ := grownTrans (grownBel hbA) hg7
                                   have HL11 := Lib.hid (HL10.out.grow hg8 (own_two HL10.out.own HS10.out (by decide)) (fun p hp => own_two (HL10.out.rows p hp) HS10.out (by decide)))
                                   have HB11 := Lib.hid (HB10.out.grown hg8 HB10.out.size (fun b hb => (own_ge HS10.out b hb).1)))
                    all_goals
                      rw [← HQ.out] at ho7
                      clear hcv hw1 hw2 hbA hzA hg7 hg8 hat7 d9 hcc hls1 HSD
                      go_wp2
                      go_roundw
                      case rel => exact ⟨c + 1, ls ++ [(Value.slice (some ⟨B14, 0, none⟩) 2 2, t)], by omega, by go_num, HM', by simp; omega, HL11, by rw [List.length_append]; exact ho7, HB11⟩
                      case measure => simp [intOf]; omega
            · obtain rfl : c = 3 := by omega
              have HMn : Hid (ls.map (·.2) = rnd (pn A B) (0, 0) (k + 1)) := by
                rw [HM.out, HM2.out, visN_three, Hsucc.out]; exact Lib.hid rfl
              have Hno2 : Hid (∀ j (h : j < (rnd (pn A B) (0, 0) (k + 1)).length), j < k + 1 → pe gApart A B (rnd (pn A B) (0, 0) (k + 1))[j] = false) := fun j h hjk => by
                obtain ⟨r, hr⟩ := rnd_pre (pn A B) (0, 0) (show k ≤ k + 1 by omega)
                have hjl : j < (rnd (pn A B) (0, 0) k).length := by have := Hk1.out; omega
                have he : (rnd (pn A B) (0, 0) (k + 1))[j] = (rnd (pn A B) (0, 0) k)[j] := by
                  simp only [← hr]
                  rw [List.getElem_append_left hjl]
                rw [he]
                rcases Nat.lt_succ_iff_lt_or_eq.1 hjk with h1 | h1
                · exact Hno.out j hjl h1
                · subst h1; rw [← Hsk.out]; exact Hno1.out
              clear Hno
              go_wp2
              go_roundw
              case rel => exact ⟨k + 1, ls, by omega, hl16, by go_num, HMn, HL, HS, HBl, Hno2⟩
              case measure => simp [intOf]; omega
    · obtain rfl : k = ls.length := by omega
      have hnk : ¬ ((ls.length : Int) < (ls.length : Int)) := by omega
      have hfin : Hid (¬ hasW (lg (pn A B) (pe gApart A B) (0, 0))) := by
        have := fst_no (pn A B) (pe gApart A B) (0, 0) (k := ls.length) (by have := Hlen.out; omega) (fun j hj => Hno.out j hj (by have := Hlen.out; omega))
        exact this
      have hBf := Lib.hid (Hb0.out.trans (HBl.out.mono Hb0.out.size))
      clear HL HS
      go_wp2
      go_ret2
      rw [fstW_no hfin.out, show fwB (lg (pn A B) (pe gApart A B) (0, 0)) = false from pb_false hfin.out]
      exact ⟨rfl, hBf.out⟩
end Go.Proofs.Ytebcnamfpajneaa
