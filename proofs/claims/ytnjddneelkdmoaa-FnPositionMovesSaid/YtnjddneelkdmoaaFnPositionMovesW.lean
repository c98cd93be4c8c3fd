/- FnPositionMoves answers true: the walk. -/
import Derived.Test.YtnjddneelkdmoaaExp
import Derived.Test.YtnjddneelkdmoaaPim
import Derived.Test.YtnjddneelkdmoaaSpi
import Derived.Test.YtnjddneelkdmoaaGC
import Derived.Deep.RegionHeld3
set_option linter.unusedSimpArgs false
set_option linter.unusedVariables false
set_option linter.unusedSectionVars false
namespace Go.Proofs.Ytnjddneelkdmoaa.fnPositionMoves
open Go.RowKit
set_option maxRecDepth 100000
variable {S T : Nat → Prop}
theorem mvs0 (e : List (Int × Int)) (F : List Int) (L : List (Int × Int)) (pl : List Int) (i : Nat) : (pMvs e F L pl (i + 1)).filter (fun m => decide (m.1 = 0)) = pRow e F L pl 0 (pl.length + 1) := by
  induction i with
  | zero =>
    rw [pMvs_step, show pMvs e F L pl 0 = [] from rfl, List.nil_append, List.filter_eq_self]
    intro m hm
    simpa using (mem_pRow hm).1
  | succ i ih =>
    rw [pMvs_step, List.filter_append, ih, List.filter_eq_nil_iff.2, List.append_nil]
    intro m hm
    have := (mem_pRow hm).1
    simp; omega
theorem row0 (e : List (Int × Int)) (F : List Int) (L : List (Int × Int)) (pl : List Int) : (pRow e F L pl 0 (pl.length + 1)).length = (pEnd F pl (pl.length + 1)).length := by
  unfold pRow pEnd
  rw [List.length_map, List.length_map]
  congr 1
  refine List.filter_congr fun k hk => ?_
  rw [List.mem_range] at hk
  unfold ttM
  refine decide_eq_decide.2 ⟨?_, fun h => ⟨h.1, by omega, .inl ⟨rfl, h.2⟩⟩⟩
  rintro ⟨h1, _, ⟨_, h2⟩ | ⟨h2, _⟩⟩
  · exact ⟨h1, h2⟩
  · omega
/-- What the answer is, where there is one. -/
theorem pp_yes {e : List (Int × Int)} (h : ppB e = true) : ∃ t : Re, plT e = some t ∧ ppN e = posA t := by
  unfold ppB at h
  unfold ppN
  cases hT : plT e with
  | none => rw [hT] at h; cases h
  | some t =>
    rw [hT] at h
    refine ⟨t, rfl, ?_⟩
    have h' : posB t = true := h
    show posN t = posA t
    unfold posB at h'
    unfold posN
    split at h'
    · rename_i h4
      rw [if_pos h4]
      by_cases ho : okN (posA t)
      · exact chkN_yes ho
      · rw [chkB_no ho] at h'; cases h'
    · cases h'
theorem firsts_len (t : Re) : ((posA t).moves.filter (fun m => decide (m.1 = 0))).length = (t.fps 0).length := by
  show ((pMvs _ _ _ _ _).filter _).length = _
  rw [mvs0, row0, pEnd_all (lpk_asc _ _) (fps_asc t 0).1 (fun x hx => let_lpk (fps_let t 0 x hx)), List.length_map]
theorem ends_len (t : Re) : (posA t).ends.length = (if t.nul then 1 else 0) + (t.lps 0).length := by
  show List.length ((if t.nul then [0] else []) ++ pEnd (t.lps 0) (lpk t.flat t.flat.length) ((lpk t.flat t.flat.length).length + 1)) = _
  rw [List.length_append, pEnd_all (lpk_asc _ _) (lps_asc t 0).1 (fun x hx => let_lpk (lps_let t 0 x hx)), List.length_map]
  split <;> rfl
/-- Moves from state 0 among the first ones. -/
def c0 (ms : List (Int × Int × Int)) (k : Nat) : Nat := ((ms.take k).filter (fun m => decide (m.1 = 0))).length
theorem c0_step {ms : List (Int × Int × Int)} {k : Nat} (h : k < ms.length) : c0 ms (k + 1) = if ms[k].1 = 0 then c0 ms k + 1 else c0 ms k := by
  unfold c0
  rw [List.take_succ_eq_append_getElem h, List.filter_append, List.length_append]
  split
  · rename_i h0; simp [h0]
  · rename_i h0; simp [h0]
theorem c0_le (ms : List (Int × Int × Int)) (k : Nat) : c0 ms k ≤ k := by
  unfold c0
  exact Nat.le_trans (List.length_filter_le _ _) (by rw [List.length_take]; omega)
set_option maxHeartbeats 1000000 in
theorem sameNfa_c (va vb vc ua ub uc : Value) (D : NfaD) (w : World) (h : NfaR S w va vb vc D) (h' : NfaR T w ua ub uc D) :
    Calls Try.prog 53 #[.agg #[.int .i64 D.states, va, vb, vc], .agg #[.int .i64 D.states, ua, ub, uc]] w (fun e w' => e = .returned (.bool true) ∧ Below w.heap.size w w') := by
  obtain ⟨a1, c1, a2, c2, a3, c3, rfl, rfl, rfl, _, _, _⟩ := h.shapes
  obtain ⟨b1, d1, b2, d2, b3, d3, rfl, rfl, rfl, _, _, _⟩ := h'.shapes
  obtain ⟨W, hW⟩ : ∃ W, W = (w.alloc (.cells #[.int .i64 D.states, .slice a1 D.moves.length c1, .slice a2 D.firsts.length c2, .slice a3 D.ends.length c3] 36)).alloc (.cells #[.int .i64 D.states, .slice b1 D.moves.length d1, .slice b2 D.firsts.length d2, .slice b3 D.ends.length d3] 36) := ⟨_, rfl⟩
  have Hb0 : Hid (Below w.heap.size w W) := by rw [hW]; exact ((Below.refl _ _).alloc (Nat.le_refl _) _).alloc (by simp) _
  have k0 : Hid (W.heap[w.heap.size]? = some (.cells #[.int .i64 D.states, .slice a1 D.moves.length c1, .slice a2 D.firsts.length c2, .slice a3 D.ends.length c3] 36 (0, 0))) := by rw [hW]; exact blkOld (blkNew _ _ rfl)
  have k1 : Hid (W.heap[w.heap.size + 1]? = some (.cells #[.int .i64 D.states, .slice b1 D.moves.length d1, .slice b2 D.firsts.length d2, .slice b3 D.ends.length d3] 36 (0, 0))) := by rw [hW]; exact blkNew _ _ (by simp)
  have H := Lib.hid (h.stay (kpB Hb0.out)); have H' := Lib.hid (h'.stay (kpB Hb0.out)); clear h h'
  have HW := Lib.hid hW; clear hW
  obtain ⟨x, hx⟩ : ∃ x, x = D.states := ⟨_, rfl⟩
  rw [← hx] at k0 k1 HW ⊢
  have Hx := Lib.hid hx; clear hx
  have hxx : (x != x) = false := by simp
  have hll : ((D.moves.length : Int) != (D.moves.length : Int)) = false := by simp
  go_enter Try.func53, Try.ntmps53
  go_wp2_with fail
  rw [← HW.out]
  clear HW
  obtain ⟨e0, e1, e2, e3⟩ := blk4 k0.out
  obtain ⟨f0, f1, f2, f3⟩ := blk4 k1.out
  go_wp2_with fail
  go_loopw [5] (fun i wr => ∃ k : Nat, k ≤ D.moves.length ∧ i = .int .i64 k ∧ ∃ nq, wr = W.drewN nq) (fun i _ => D.moves.length - (intOf i).toNat)
  case atStart => exact ⟨0, by omega, rfl, 0, rfl⟩
  case round =>
    obtain ⟨k, hk, rfl, nq, rfl⟩ := hrel
    by_cases hlt : k < D.moves.length
    · have hkI : (k : Int) < (D.moves.length : Int) := by omega
      obtain ⟨p1, o1, rfl, x0, x1, x2⟩ := H.out.1.at hlt
      obtain ⟨p2, o2, rfl, y0, y1, y2⟩ := H'.out.1.at hlt
      generalize (D.moves[k]).1 = m1 at *
      generalize (D.moves[k]).2.1 = m2 at *
      generalize (D.moves[k]).2.2 = m3 at *
      have e1D : (W.drewN nq).cell? ⟨w.heap.size, 1, none⟩ = _ := e1
      have f1D : (W.drewN nq).cell? ⟨w.heap.size + 1, 1, none⟩ = _ := f1
      have x0D : (W.drewN nq).cell? _ = _ := x0
      have x1D : (W.drewN nq).cell? _ = _ := x1
      have x2D : (W.drewN nq).cell? _ = _ := x2
      have y0D : (W.drewN nq).cell? _ = _ := y0
      have y1D : (W.drewN nq).cell? _ = _ := y1
      have y2D : (W.drewN nq).cell? _ = _ := y2
      go_wp2_with fail
      go_quiet (fail)
      go_wp2_with fail
      go_roundw
      case rel => exact ⟨k + 1, by omega, by go_num, _, rfl⟩
      case measure => simp [intOf]; omega
    · obtain rfl : k = D.moves.length := by omega
      have e1D : (W.drewN nq).cell? ⟨w.heap.size, 1, none⟩ = _ := e1
      have e2D : (W.drewN nq).cell? ⟨w.heap.size, 2, none⟩ = _ := e2
      have e3D : (W.drewN nq).cell? ⟨w.heap.size, 3, none⟩ = _ := e3
      have f2D : (W.drewN nq).cell? ⟨w.heap.size + 1, 2, none⟩ = _ := f2
      have f3D : (W.drewN nq).cell? ⟨w.heap.size + 1, 3, none⟩ = _ := f3
      have HN : Hid (NfaR S (W.drewN nq) (.slice a1 D.moves.length c1) (.slice a2 D.firsts.length c2) (.slice a3 D.ends.length c3) D) := Lib.hid (H.out.stay (kpB (belReflN _ _ _)))
      have HN' : Hid (NfaR T (W.drewN nq) (.slice b1 D.moves.length d1) (.slice b2 D.firsts.length d2) (.slice b3 D.ends.length d3) D) := Lib.hid (H'.out.stay (kpB (belReflN _ _ _)))
      have HB := Lib.hid (Hb0.out.trans ((belReflN (W.heap.size) W nq).mono Hb0.out.size))
      have K0 : Hid ((W.drewN nq).heap[w.heap.size]? = _) := k0
      have K1 : Hid ((W.drewN nq).heap[w.heap.size + 1]? = _) := k1
      clear e0 e1 e2 e3 f0 f1 f2 f3 k0 k1 H H' Hb0
      generalize W.drewN nq = V at *
      go_wp2_with fail
      refine (sameInts_c _ _ D.firsts D.firsts V HN.out.2.1 HN'.out.2.1).mono ?_
      rintro e w4 ⟨b4, rfl, hb, hh⟩
      obtain rfl : b4 = true := hh.out.2 rfl
      obtain ⟨e0, e1, e2, e3⟩ := blk4 (blkBel hb K0.out)
      obtain ⟨f0, f1, f2, f3⟩ := blk4 (blkBel hb K1.out)
      have HN := Lib.hid (HN.out.stay (kpB hb)); have HN' := Lib.hid (HN'.out.stay (kpB hb))
      have HB := Lib.hid (HB.out.trans (hb.mono HB.out.size))
      clear e2D e3D f2D f3D e1D hb hh
      go_wp2_with fail
      refine (sameInts_c _ _ D.ends D.ends w4 HN.out.2.2 HN'.out.2.2).mono ?_
      rintro e w5 ⟨b5, rfl, hb, hh⟩
      obtain rfl : b5 = true := hh.out.2 rfl
      go_wp2
      go_ret
      exact ⟨rfl, HB.out.trans (hb.mono HB.out.size)⟩
theorem HasEmpty_c (t : Re) (ht : t.wf) (hl : t.flat.length ≤ 60) (v : Value) (w : World) (h : Pairs S w v t.flat) (hok : ExprOk t.flat) : Calls Try.prog 18 #[v] w (RO w (.bool t.nul)) := by
  obtain ⟨a, cap, rfl, _⟩ := h.shape
  have H := Lib.hid h; clear h
  go_enter Try.func18, Try.ntmps18
  go_wp2_with fail
  refine (ExprValid_c _ t.flat w H.out).mono ?_
  rintro x w1 ⟨b1, rfl, hb, hv⟩
  obtain rfl : b1 = true := hv.out.2 hok
  have HB := Lib.hid hb
  go_wp2_with fail
  refine (hasEmpty_c t ht hl _ w1 (H.out.stay (kpB hb))).mono ?_
  rintro x w2 ⟨rfl, hb2⟩
  cases hnu : t.nul
  · go_wp2
    go_ret
    exact ⟨by rw [hnu]; rfl, HB.out.trans (hb2.mono HB.out.size)⟩
  · go_wp2
    go_ret
    exact ⟨by rw [hnu]; rfl, HB.out.trans (hb2.mono HB.out.size)⟩
theorem DrawPositionNfa_c (v : Value) (bs : List UInt8) (w : World) (h : Bytes S w v bs) : Calls Try.prog 50 #[v] w (RDp w) := by
  have H := Lib.hid h; clear h
  go_enter Try.func50, Try.ntmps50
  go_wp2_with fail
  refine (open_x _ _ w H.out).mono ?_
  rintro e w2 ⟨rb, rfl, hrb, hb2, hr2⟩
  have hs2 := hb2.size
  go_wp2_with fail
  refine (l20Plain_x rb 0 _ w2 hr2.out (by omega) (by omega)).mono ?_
  rintro e w3 ⟨v, xs, p3, rfl, hx, hp3, hd3, hr3, ho⟩
  obtain ⟨a, c, rfl, _⟩ := ho.out.shape
  go_wp2
  go_ret
  exact ⟨_, xs, rfl, hx, hb2.trans (hd3.bel hrb hs2), Lib.hid (ho.out.mono fun b h => Nat.le_trans hs2 h)⟩
set_option maxHeartbeats 2000000 in
theorem walk (w : World) (v : Value) (bs : List UInt8) (h : Bytes (fun _ => True) w v bs) :
    Calls Try.prog 9 #[v] w (Yes w) := by
  obtain ⟨a, cap, rfl, hn⟩ := h.shape
  have H := Lib.hid h; clear h
  by_cases hl : 1048576 < bs.length
  · go_enter Try.func9, Try.ntmps9
    go_wp2
    go_ret
    exact ⟨rfl, Below.refl _ _⟩
  · go_enter Try.func9, Try.ntmps9
    go_wp2_with fail
    refine (DrawPositionNfa_c _ _ _ H.out).mono ?_
    rintro e w1 ⟨v1, xs, rfl, hx, hb1, hp1⟩
    clear H hn hl
    obtain ⟨a1, c1, rfl, _⟩ := hp1.out.shape
    have HB := Lib.hid hb1
    clear hb1
    obtain ⟨D, hD⟩ : ∃ D, D = ppN xs := ⟨_, rfl⟩
    obtain ⟨zb, hzb⟩ : ∃ b, b = ppB xs := ⟨_, rfl⟩
    obtain ⟨x, hx'⟩ : ∃ x, x = D.states := ⟨_, rfl⟩
    have hneb := bneSelf zb
    go_wp2_with fail
    refine (PositionNfa_c _ xs w1 hp1.out).mono ?_
    rintro e w2 ⟨vm, vf, ve, rfl, hb, ho⟩
    rw [← hD] at ho ⊢
    rw [← hzb, ← hx']
    have hR := ho.out.w.rd
    obtain ⟨am, cm, af, cf, ae, ce, rfl, rfl, rfl, _, _, _⟩ := hR.shapes
    have HR := Lib.hid hR; clear hR ho
    have hp2 := Lib.hid (hp1.out.stay (kpB hb))
    replace HB := Lib.hid (HB.out.trans (hb.mono HB.out.size))
    clear hb hp1
    obtain ⟨w3, hw3⟩ : ∃ z, z = w2.alloc (.cells #[.int .i64 x, .slice am D.moves.length cm, .slice af D.firsts.length cf, .slice ae D.ends.length ce] 36) := ⟨_, rfl⟩
    have hb3 : Below w2.heap.size w2 w3 := by rw [hw3]; exact (Below.refl _ _).alloc (Nat.le_refl _) _
    have K3 : Hid (w3.heap[w2.heap.size]? = some (.cells #[.int .i64 x, .slice am D.moves.length cm, .slice af D.firsts.length cf, .slice ae D.ends.length ce] 36 (0, 0))) := by rw [hw3]; exact blkNew _ _ rfl
    replace HB := Lib.hid (HB.out.trans (hb3.mono HB.out.size))
    replace HR := Lib.hid (HR.out.stay (kpB hb3))
    have hp3 := Lib.hid (hp2.out.stay (kpB hb3))
    have HW3 := Lib.hid hw3; clear hw3 hb3 hp2
    have HD := Lib.hid hD; have HZ := Lib.hid hzb; have HX := Lib.hid hx'; clear hD hzb hx'
    go_wp2_with fail
    rw [← HW3.out]
    clear HW3
    refine (sPositionNfa_c _ xs w3 hp3.out (by omega)).mono ?_
    rintro e w4 ⟨vm', vf', ve', rfl, hb, ho⟩
    rw [← HD.out] at ho ⊢
    rw [← HZ.out, ← HX.out]
    have hR' := ho.out.w.rd
    obtain ⟨bm, dm, bf, df, be, de, rfl, rfl, rfl, _, _, _⟩ := hR'.shapes
    have HR' := Lib.hid hR'; clear hR' ho
    have hp4 := Lib.hid (hp3.out.stay (kpB hb))
    replace HR := Lib.hid (HR.out.stay (kpB hb))
    replace K3 := Lib.hid (blkBel hb K3.out)
    replace HB := Lib.hid (HB.out.trans (hb.mono HB.out.size))
    clear hb hp3
    obtain ⟨w5, hw5⟩ : ∃ z, z = w4.alloc (.cells #[.int .i64 x, .slice bm D.moves.length dm, .slice bf D.firsts.length df, .slice be D.ends.length de] 36) := ⟨_, rfl⟩
    have hb5 : Below w4.heap.size w4 w5 := by rw [hw5]; exact (Below.refl _ _).alloc (Nat.le_refl _) _
    have K5 : Hid (w5.heap[w4.heap.size]? = some (.cells #[.int .i64 x, .slice bm D.moves.length dm, .slice bf D.firsts.length df, .slice be D.ends.length de] 36 (0, 0))) := by rw [hw5]; exact blkNew _ _ rfl
    replace HB := Lib.hid (HB.out.trans (hb5.mono HB.out.size))
    replace HR := Lib.hid (HR.out.stay (kpB hb5))
    replace HR' := Lib.hid (HR'.out.stay (kpB hb5))
    replace K3 := Lib.hid (blkBel hb5 K3.out)
    have hp5 := Lib.hid (hp4.out.stay (kpB hb5))
    have HW5 := Lib.hid hw5; clear hw5 hb5 hp4
    obtain ⟨e0, e1, e2, e3⟩ := blk4 K3.out
    obtain ⟨f0, f1, f2, f3⟩ := blk4 K5.out
    go_wp2_with (rw [← HW5.out])
    clear e0 e1 e2 e3 f0 f1 f2 f3
    rw [HX.out]
    refine (sameNfa_c _ _ _ _ _ _ D w5 HR.out HR'.out).mono ?_
    rintro e w6 ⟨rfl, hb⟩
    replace HB := Lib.hid (HB.out.trans (hb.mono HB.out.size))
    replace HR := Lib.hid (HR.out.stay (kpB hb))
    replace K3 := Lib.hid (blkBel hb K3.out)
    have hp6 := Lib.hid (hp5.out.stay (kpB hb))
    clear hb hp5 HR' K5 HW5
    cases zb
    · go_wp2_with fail
      refine (alive_c _).mono ?_
      rintro e w9 ⟨b9, rfl, rfl, hb9⟩
      obtain rfl : b9 = true := hb9.out.2 trivial
      go_wp2
      go_ret
      exact ⟨rfl, HB.out⟩
    · obtain ⟨t, hT, hA⟩ := pp_yes HZ.out.symm
      obtain ⟨hok, hpl, ht, he, hl60⟩ := plT_some hT
      have hfp := fpv_some hT
      have hlp := lpw_some hT
      have HC1 : Hid (c0 D.moves D.moves.length = (t.fps 0).length) := Lib.hid (by unfold c0; rw [List.take_length, HD.out, hA]; exact firsts_len t)
      have HE1 : Hid (D.ends.length = (if t.nul then 1 else 0) + (t.lps 0).length) := Lib.hid (by rw [HD.out, hA]; exact ends_len t)
      have hml : D.moves.length ≤ 100000 := by
        rw [HD.out, hA]
        have h1 := pMvs_len t.flat (t.fps 0) (t.fol 0) (lpk t.flat t.flat.length) ((lpk t.flat t.flat.length).length + 1)
        have h2 := lpk_len t.flat t.flat.length
        have h3 : ((lpk t.flat t.flat.length).length + 1) * ((lpk t.flat t.flat.length).length + 1) ≤ 61 * 61 := Nat.mul_le_mul (by omega) (by omega)
        show (pMvs _ _ _ _ _).length ≤ _
        omega
      have hfl : (t.fps 0).length ≤ 60 := by have := (fps_asc t 0).2.2; omega
      have hll : (t.lps 0).length ≤ 60 := by have := (lps_asc t 0).2.2; omega
      have HOK := Lib.hid hok; have HT := Lib.hid ht; have HFP := Lib.hid hfp; have HLP := Lib.hid hlp
      subst he
      clear hT hA hpl hok ht hfp hlp
      obtain ⟨nF, hnF⟩ : ∃ n, n = (t.fps 0).length := ⟨_, rfl⟩
      obtain ⟨nL, hnL⟩ : ∃ n, n = (t.lps 0).length := ⟨_, rfl⟩
      rw [← hnF] at HC1 hfl
      rw [← hnL] at HE1 hll
      have HnF := Lib.hid hnF; have HnL := Lib.hid hnL; clear hnF hnL
      obtain ⟨e0, e1, e2, e3⟩ := blk4 K3.out
      go_wp2_with fail
      go_loop [8, 9] (fun a i => ∃ k : Nat, k ≤ D.moves.length ∧ a = .int .i64 (c0 D.moves k) ∧ i = .int .i64 k) (fun _ i => D.moves.length - (intOf i).toNat)
      case atStart => exact ⟨0, by omega, rfl, rfl⟩
      case round =>
        obtain ⟨k, hk, rfl, rfl⟩ := hrel
        have hcl := c0_le D.moves k
        by_cases hlt : k < D.moves.length
        · have hkI : (k : Int) < (D.moves.length : Int) := by omega
          have HST := Lib.hid (c0_step hlt)
          obtain ⟨p1, o1, rfl, x0, x1, x2⟩ := HR.out.1.at hlt
          generalize c0 D.moves k = ck at *
          by_cases hz : (D.moves[k]).1 = 0
          · rw [if_pos hz] at HST
            rw [hz] at x0
            clear hz
            go_wp2_with fail
            go_round
            case rel => exact ⟨k + 1, by omega, by rw [HST.out]; go_num, by go_num⟩
            case measure => simp [intOf]; omega
          · rw [if_neg hz] at HST
            have hzb : ((D.moves[k]).1 == 0) = false := by simpa using hz
            generalize (D.moves[k]).1 = m1 at *
            go_wp2_with fail
            go_round
            case rel => exact ⟨k + 1, by omega, by rw [HST.out], by go_num⟩
            case measure => simp [intOf]; omega
        · obtain rfl : k = D.moves.length := by omega
          rw [HC1.out]
          clear hcl
          go_wp2_with fail
          clear e0 e1 e2 e3
          refine (LastPlaces_c _ t.flat w6 hp6.out).mono ?_
          rintro e w7 ⟨lv, rfl, hb, hlv⟩
          obtain ⟨al, cl, rfl, _⟩ := hlv.out.shape
          rw [HLP.out, ← HnL.out]
          replace HB := Lib.hid (HB.out.trans (hb.mono HB.out.size))
          replace K3 := Lib.hid (blkBel hb K3.out)
          have hp7 := Lib.hid (hp6.out.stay (kpB hb))
          clear hb hp6 hlv
          go_wp2_with fail
          refine (HasEmpty_c t HT.out hl60 _ w7 hp7.out HOK.out).mono ?_
          rintro e w8 ⟨rfl, hb⟩
          replace HB := Lib.hid (HB.out.trans (hb.mono HB.out.size))
          replace K3 := Lib.hid (blkBel hb K3.out)
          have hp8 := Lib.hid (hp7.out.stay (kpB hb))
          clear hb hp7
          cases hnu : t.nul
          all_goals (
            rw [hnu] at HE1
            have hE := HE1.out
            simp only [if_true, Bool.false_eq_true, if_false] at hE
            clear hnu
            have HE := Lib.hid hE; clear hE
            go_wp2_with fail
            refine (FirstPlaces_c _ t.flat w8 hp8.out).mono ?_
            rintro e w9 ⟨fv, rfl, hb, hfv⟩
            obtain ⟨a9, c9, rfl, _⟩ := hfv.out.shape
            rw [HFP.out, ← HnF.out]
            replace HB := Lib.hid (HB.out.trans (hb.mono HB.out.size))
            replace K3 := Lib.hid (blkBel hb K3.out)
            clear hb hfv
            rw [HE.out] at K3
            obtain ⟨e0, e1, e2, e3⟩ := blk4 K3.out
            have hcm : (((0 + nL : Nat) : Int) == (nL : Int)) = true := by simp
            have hcm1 : (((1 + nL : Nat) : Int) == ((nL : Int) + 1)) = true := by simp; omega
            have hcm2 : ((1 : Int) + (nL : Int) == ((nL : Int) + 1)) = true := by simp; omega
            go_wp2
            go_ret
            exact ⟨rfl, HB.out⟩)
end Go.Proofs.Ytnjddneelkdmoaa.fnPositionMoves
