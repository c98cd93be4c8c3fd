/- Lists of automata: sizes, copies, comparing; whether patterns are valid. -/
import Derived.Test.YthdbgpdidolmaaaFa3
import Derived.Test.YthdbgpdidolmaaaEqf
import Derived.Test.YthdbgpdidolmaaaDfv
import Derived.Test.YthdbgpdidolmaaaRov
import Derived.StillTailTactics
namespace Go.Proofs.Ythdbgpdidolmaaa
open Go.RowKit
set_option maxRecDepth 100000
variable {S T : Nat → Prop}
def smallDS (Ds : List DfaD) : Prop := Ds.length ≤ 1048576 ∧ ∀ D ∈ Ds, smallD D
set_option maxHeartbeats 400000 in
theorem szDfaS_c (v : Value) (Ds : List DfaD) (left : Int) (w : World) (h : DfaS S w v Ds) (h0 : 0 ≤ left) (h1 : left ≤ 1048576) :
    Calls Try.prog 15 #[v, .int .i64 left] w (Sz w left (smallDS Ds)) := by
  obtain ⟨a, cap, rfl, hn⟩ := h.shape
  have H := Lib.hid h; clear h
  by_cases hl : (Ds.length : Int) ≤ left
  · go_enter Try.func15, Try.ntmps15
    go_wp2
    go_loopw [1, 5] (fun x i wr => ∃ (k : Nat) (l : Int), k ≤ Ds.length ∧ i = .int .i64 k ∧ x = .int .i64 l ∧ 0 ≤ l ∧ l ≤ left ∧ Below w.heap.size w wr ∧ Hid (∀ j (hj : j < Ds.length), j < k → smallD Ds[j])) (fun _ i _ => Ds.length - (intOf i).toNat)
    case atStart => exact ⟨0, _, by omega, rfl, rfl, by omega, by omega, Below.refl _ _, fun j _ hj => absurd hj (Nat.not_lt_zero _)⟩
    case round =>
      obtain ⟨k, l, hk, rfl, rfl, hl0, hl1, hb, hr⟩ := hrel
      by_cases hlt : k < Ds.length
      · obtain ⟨b, off, vn, ve, rfl, hc, hc', hu⟩ := (H.out.stay (kpB hb)).at hlt
        obtain ⟨x1, x2, x3, x4, rfl, rfl, _, _⟩ := hu.shapes
        have HU := Lib.hid hu; clear hu
        go_wp2_with fail
        refine (szDfa_c _ _ _ l wr HU.out hl0 (by omega)).mono ?_
        rintro e w1 ⟨m, rfl, hb1, hm⟩
        rcases hm.out with rfl | ⟨hm0, hm1, hm2⟩
        · clear hm
          go_wp2
          go_ret
          exact Sz.no (hb.trans (hb1.mono hb.size))
        · have Hm2 := Lib.hid hm2
          clear hm hm2
          go_wp2
          go_roundw
          case rel => exact ⟨k + 1, m, by omega, by go_num, rfl, by omega, by omega, hb.trans (hb1.mono hb.size), fun j hj hjk => by
            rcases Nat.lt_succ_iff_lt_or_eq.1 hjk with h | rfl
            · exact hr.out j hj h
            · exact Hm2.out⟩
          case measure => simp [intOf]; omega
      · go_wp2
        go_ret
        exact Sz.yes hb hl0 hl1 ⟨by omega, fun r hr' => by
          obtain ⟨j, hj, rfl⟩ := List.getElem_of_mem hr'
          exact hr.out j hj (by omega)⟩
  · go_enter Try.func15, Try.ntmps15
    go_wp2
    go_ret
    exact Sz.no (Below.refl _ _)
theorem elDfaT : ElemT 25 36 2 48 := ElemT.of (z := .agg #[.slice none 0 0, .slice none 0 0]) Try.underlying25 (by kernel_rfl) rfl (by decide)
theorem flat_pairs (f : Nat → Value) (n : Nat) : ((List.range n).map fun i => (f (2 * i), f (2 * i + 1))).flatMap (fun p => [p.1, p.2]) = (List.range (2 * n)).map f := by
  induction n with
  | zero => rfl
  | succ n ih =>
    rw [List.range_succ, List.map_append, List.flatMap_append, ih, show 2 * (n + 1) = 2 * n + 1 + 1 by omega, List.range_succ, List.range_succ]
    simp
set_option maxHeartbeats 1000000 in
theorem toDfaS_c (v : Value) (Ds : List DfaD) (w : World) (h : DfaS S w v Ds) (hn : smallDS Ds) :
    Calls Try.prog 17 #[v] w (RVn w fun v w' => DfaS (fun _ => True) w' v Ds) := by
  obtain ⟨a, cap, rfl, _⟩ := h.shape
  have H := Lib.hid h; clear h
  have hn1 := hn.1
  have hn2 := Lib.hid hn.2
  clear hn
  go_enter Try.func17, Try.ntmps17
  go_wp2_with (at_make; refine makeFull elDfaT (by decide) rfl (.tmp 6) (.tmp 6) rfl Ds.length w rfl rfl (by omega) ?_; intro w1 cs ho hcl hb hlt _)
  have hF := Lib.hid (ownAt ho.out)
  clear ho
  go_loopw [4] (fun i wr => ∃ k : Nat, k ≤ Ds.length ∧ i = .int .i64 k ∧ Below w.heap.size w wr ∧ w.heap.size < wr.heap.size ∧ Hid (∃ f : Nat → Value, FlW (· = w.heap.size) wr (.slice (some ⟨w.heap.size, 0, none⟩) Ds.length Ds.length) Ds.length (mkd cs f (2 * k)) ∧
      ∀ i (h : i < Ds.length), i < k → DfaR (fun b => w.heap.size < b) wr (f (2 * i)) (f (2 * i + 1)) Ds[i])) (fun i _ => Ds.length - (intOf i).toNat)
  case atStart => exact ⟨0, by omega, rfl, hb, hlt, fun _ => undef, by rw [mkd_zero]; exact hF, fun i _ h => absurd h (Nat.not_lt_zero _)⟩
  case round =>
    obtain ⟨k, hk, rfl, hb, hlt0, hr⟩ := hrel
    clear hF
    by_cases hlt : k < Ds.length
    · obtain ⟨b, off, vn, ve, rfl, hca, hca', hu⟩ := (H.out.stay (kpB hb)).at hlt
      obtain ⟨x1, x2, x3, x4, rfl, rfl, _, _⟩ := hu.shapes
      have HU := Lib.hid hu; clear hu
      have hlk := hn2.out _ (List.getElem_mem hlt)
      have Hlk := Lib.hid hlk
      clear hlk
      obtain ⟨D, hD⟩ : ∃ D, D = Ds[k] := ⟨_, rfl⟩
      rw [← hD] at HU Hlk hca hca'
      have HD := Lib.hid hD; clear hD
      go_wp2_with fail
      refine (toDfa_c _ _ D _ HU.out Hlk.out).mono ?_
      rintro e w2 ⟨v1, v2, rfl, hb2, hm2⟩
      obtain ⟨y1, y2, y3, y4, rfl, rfl, _, _⟩ := hm2.out.rd.shapes
      have hbw2 := hb.trans (hb2.mono hb.size)
      have hlt2 := Nat.lt_of_lt_of_le hlt0 hb2.size
      obtain ⟨f, q1, q2⟩ := hr.out
      have q1' := q1.stay (ksB hb2)
      obtain ⟨V1, hV1⟩ : ∃ V, V = Value.slice y1 D.1.length y2 := ⟨_, rfl⟩
      obtain ⟨V2, hV2⟩ : ∃ V, V = Value.slice y3 D.2.length y4 := ⟨_, rfl⟩
      obtain ⟨f', hf'⟩ : ∃ f' : Nat → Value, f' = fun t => if t = 2 * k then V1 else if t = 2 * k + 1 then V2 else f t := ⟨_, rfl⟩
      have hvs : mkd cs f' (2 * k) = mkd cs f (2 * k) := by
        unfold mkd
        congr 1
        apply List.map_congr_left
        intro i hi
        have := List.mem_range.1 hi
        rw [hf']
        simp only
        rw [if_neg (by omega), if_neg (by omega)]
      have hlen := mkd_length cs f' (2 * k) (by rw [hcl.out]; omega)
      have hlen2 := mkd_length cs f' (2 * k + 1) (by rw [hcl.out]; omega)
      rw [← hvs] at q1'
      obtain ⟨b', off', e, _, e0, f0⟩ := q1'.at (i := 2 * k) (by rw [hlen, hcl.out]; omega)
      cases e
      obtain ⟨b', off', e, _, e1, _⟩ := q1'.at (i := 2 * k + 1) (by rw [hlen, hcl.out]; omega)
      cases e
      have hs := q1'.set (2 * k) V1 (by rw [hlen, hcl.out]; omega)
      have q0 := mkd_set cs f' (2 * k) (by rw [hcl.out]; omega)
      have q0' := mkd_set cs f' (2 * k + 1) (by rw [hcl.out]; omega)
      have F0 : f' (2 * k) = V1 := by rw [hf']; simp
      have F1 : f' (2 * k + 1) = V2 := by rw [hf']; simp
      rw [F0] at q0
      rw [F1] at q0'
      rw [q0] at hs
      have hs2 := hs.set (2 * k + 1) V2 (by rw [hlen2, hcl.out]; omega)
      rw [q0'] at hs2
      obtain ⟨u0, d0⟩ : ∃ u, w2.cell? ⟨w.heap.size, 0 + 2 * k, none⟩ = some u := ⟨_, e0⟩
      obtain ⟨u1, d1⟩ : ∃ u, w2.cell? ⟨w.heap.size, 0 + (2 * k + 1), none⟩ = some u := ⟨_, e1⟩
      have g0 := f0 (k * 2)
      have g1 := f0 (k * 2 + 1)
      rw [show 0 + 2 * k = k * 2 by omega] at d0 hs2
      rw [show 0 + (2 * k + 1) = k * 2 + 1 by omega] at d1 hs2
      have hgo : Kp (fun b => w.heap.size < b) w2 ((w2.setCell ⟨w.heap.size, k * 2, none⟩ V1).setCell ⟨w.heap.size, k * 2 + 1, none⟩ V2) := fun ad u hs hc => by
        have hne : ad.block ≠ w.heap.size := by omega
        rw [World.cell?_of_block (Below.heap_setCell _ _ _ _ hne), World.cell?_of_block (Below.heap_setCell _ _ _ _ hne)]
        exact hc
      have HR : Hid (∃ f : Nat → Value, FlW (· = w.heap.size) ((w2.setCell ⟨w.heap.size, k * 2, none⟩ V1).setCell ⟨w.heap.size, k * 2 + 1, none⟩ V2) (.slice (some ⟨w.heap.size, 0, none⟩) Ds.length Ds.length) Ds.length (mkd cs f (2 * (k + 1))) ∧
          ∀ i (h : i < Ds.length), i < k + 1 → DfaR (fun b => w.heap.size < b) ((w2.setCell ⟨w.heap.size, k * 2, none⟩ V1).setCell ⟨w.heap.size, k * 2 + 1, none⟩ V2) (f (2 * i)) (f (2 * i + 1)) Ds[i]) := by
        refine ⟨f', hs2, fun i hi hik => ?_⟩
        by_cases e : i = k
        · subst e
          rw [F0, F1, hV1, hV2]
          have := (hm2.out.rd.mono (T := fun b => w.heap.size < b) (fun b hb => by omega)).stay hgo
          rw [HD.out] at this ⊢
          rw [hV1, hV2, HD.out] at this
          exact this
        · have h1 := q2 i hi (by omega)
          have e2 : f' (2 * i) = f (2 * i) := by rw [hf']; simp only; rw [if_neg (by omega), if_neg (by omega)]
          have e3 : f' (2 * i + 1) = f (2 * i + 1) := by rw [hf']; simp only; rw [if_neg (by omega), if_neg (by omega)]
          rw [e2, e3]
          exact (h1.stay (kpB hb2)).stay hgo
      rw [hV1, hV2] at HR
      have hB : Below w.heap.size w ((w2.setCell ⟨w.heap.size, k * 2, none⟩ (.slice y1 D.1.length y2)).setCell ⟨w.heap.size, k * 2 + 1, none⟩ (.slice y3 D.2.length y4)) := (hbw2.setCell (Nat.le_refl _) _).setCell (Nat.le_refl _) _
      clear hgo hs2 hs q0 q0' F0 F1 hf' hvs e0 e1 f0 q1 q1' q2 hr hlen hlen2 hm2 hb hb2 hbw2 hV1 hV2
      go_wp2
      go_roundw
      case rel => exact ⟨k + 1, by omega, by go_num, hB, by simpa [World.setCell] using hlt2, HR⟩
      case measure => simp [intOf]; omega
    · obtain rfl : k = Ds.length := by omega
      obtain ⟨f, q1, q2⟩ := hr.out
      rw [mkd_all cs _ _ (by rw [hcl.out]; omega)] at q1
      have HQ : Hid (DfaS (fun _ => True) wr (.slice (some ⟨w.heap.size, 0, none⟩) Ds.length Ds.length) Ds) := by
        refine ⟨(List.range Ds.length).map fun i => (f (2 * i), f (2 * i + 1)), ?_, by simp, fun i hi => ?_⟩
        · rw [flat_pairs]; exact q1.fl.mono (fun _ _ => trivial)
        · have := (q2 i hi hi).mono (T := fun _ => True) (fun _ _ => trivial)
          simpa [List.getD_eq_getElem?_getD, hi] using this
      clear q1 q2 hr
      go_wp2
      go_ret
      exact RVn.mk hb HQ.out
set_option maxHeartbeats 400000 in
theorem eqDfaS_c (v u : Value) (Ds : List DfaD) (w : World) (hv : DfaS S w v Ds) (hu : DfaS T w u Ds) : Calls Try.prog 19 #[v, u] w (RBn w True) := by
  obtain ⟨a, ca, rfl, hn⟩ := hv.shape
  obtain ⟨b, cb, rfl, _⟩ := hu.shape
  have HV := Lib.hid hv; clear hv
  have HU := Lib.hid hu; clear hu
  have hne := bneS (Ds.length : Int)
  go_enter Try.func19, Try.ntmps19
  go_wp2
  go_loopw [5] (fun i wr => ∃ k : Nat, k ≤ Ds.length ∧ i = .int .i64 k ∧ Below w.heap.size w wr) (fun i _ => Ds.length - (intOf i).toNat)
  case atStart => exact ⟨0, by omega, rfl, Below.refl _ _⟩
  case round =>
    obtain ⟨k, hk, rfl, hb⟩ := hrel
    by_cases hlt : k < Ds.length
    · obtain ⟨ba, oa, vn, ve, rfl, hca, hca', hda⟩ := (HV.out.stay (kpB hb)).at hlt
      obtain ⟨bb, ob, un, ue, rfl, hcb, hcb', hdb⟩ := (HU.out.stay (kpB hb)).at hlt
      have hkI : (k : Int) < (Ds.length : Int) := by omega
      obtain ⟨x1, x2, x3, x4, rfl, rfl, _, _⟩ := hda.shapes
      obtain ⟨y1, y2, y3, y4, rfl, rfl, _, _⟩ := hdb.shapes
      have HA := Lib.hid (hda.stay (kpB ((Below.refl wr.heap.size wr).drew)))
      have HB := Lib.hid (hdb.stay (kpB ((Below.refl wr.heap.size wr).drew)))
      clear hda hdb
      go_wp2_with fail
      go_still_tail 8, (by kernel_rfl)
      change wpList _ _ _ _ _ wr.drew
      have hb2 : Below w.heap.size w wr.drew := hb.drew
      clear hca hca' hcb hcb'
      generalize wr.drew = w2 at *
      go_wp2_with fail
      refine (eqDfa_c _ _ _ _ _ _ HA.out HB.out).mono ?_
      rintro e w3 ⟨b, rfl, hb3, hp⟩
      cases b
      · exact (hbF hp trivial).elim
      clear hp
      go_wp2
      go_roundw
      case rel => exact ⟨k + 1, by omega, by go_num, hb2.trans (hb3.mono hb2.size)⟩
      case measure => simp [intOf]; omega
    · go_wp2
      go_ret
      exact RBn.mk hb (by simp)
/-- The patterns are valid. -/
def okP (Ds : List DfaD) : Prop := (1 ≤ Ds.length ∧ Ds.length ≤ 4) ∧ ∀ D ∈ Ds, okD D
theorem idxFuncDfa_c (v : Value) (Ds : List DfaD) (w : World) (h : DfaS S w v Ds) (f : FuncId) (cs : Array Value) (p : DfaD → Prop) (hcf : HasBody f)
    (hf : ∀ D ∈ Ds, ∀ vn ve w', Below w.heap.size w w' → DfaR S w' vn ve D → Calls Try.prog f (#[.agg #[vn, ve]] ++ cs) w' (RBn w' (p D))) :
    Calls Try.prog 103 #[v, .func (.func f) #[] cs] w (RIn w fun n => (n = -1 ∧ ∀ x ∈ Ds, ¬ p x) ∨ (0 ≤ n ∧ ∃ x ∈ Ds, p x)) := by
  obtain ⟨a, cap, rfl, hn⟩ := h.shape
  have H := Lib.hid h; clear h
  have HF := Lib.hid hf; clear hf
  have HC := Lib.hid hcf; clear hcf
  go_enter Try.func103, Try.ntmps103
  go_wp2
  go_loopw [8] (fun i wr => ∃ k : Nat, k ≤ Ds.length ∧ i = .int .i64 k ∧ Below w.heap.size w wr ∧ Hid (∀ j (hj : j < Ds.length), j < k → ¬ p Ds[j])) (fun i _ => Ds.length - (intOf i).toNat)
  case atStart => exact ⟨0, by omega, rfl, Below.refl _ _, fun j _ hj => absurd hj (Nat.not_lt_zero _)⟩
  case round =>
    obtain ⟨k, hk, rfl, hb, hr⟩ := hrel
    by_cases hlt : k < Ds.length
    · obtain ⟨b, off, vn, ve, rfl, h0, h1, hd⟩ := (H.out.stay (kpB hb)).at hlt
      have Hf := Lib.hid (HF.out _ (List.getElem_mem hlt) vn ve wr hb hd)
      obtain ⟨x1, x2, x3, x4, rfl, rfl, _, _⟩ := hd.shapes
      obtain ⟨x, hx⟩ : ∃ x, x = Ds[k] := ⟨_, rfl⟩
      rw [← hx] at h0 h1 Hf
      have Hx := Lib.hid hx; clear hx hd
      go_wp2_with fail
      rw [HC.out, Oper.upon_enter]
      refine Hf.out.mono ?_
      rintro e w' ⟨b, rfl, hb2, hbp⟩
      have hB := hb.trans (hb2.mono hb.size)
      clear h0 h1 hb hb2
      cases b
      · have hp := Lib.hid (hbF hbp); clear hbp
        go_wp2
        go_roundw
        case rel => exact ⟨k + 1, by omega, by go_num, hB, fun j hj hjk => by
          rcases Nat.lt_succ_iff_lt_or_eq.1 hjk with h | rfl
          · exact hr.out j hj h
          · rw [← Hx.out]; exact hp.out⟩
        case measure => simp [intOf]; omega
      · have hp := Lib.hid (hbT hbp); clear hbp
        go_wp2
        go_ret
        exact RIn.mk hB (.inr ⟨by omega, x, by rw [Hx.out]; exact List.getElem_mem hlt, hp.out⟩)
    · go_wp2
      go_ret
      exact RIn.mk hb (.inl ⟨rfl, fun x hx => by
        obtain ⟨j, hj, rfl⟩ := List.getElem_of_mem hx
        exact hr.out j hj (by omega)⟩)
theorem contFuncDfa_c (v : Value) (Ds : List DfaD) (w : World) (h : DfaS S w v Ds) (f : FuncId) (cs : Array Value) (p : DfaD → Prop) (hcf : HasBody f)
    (hf : ∀ D ∈ Ds, ∀ vn ve w', Below w.heap.size w w' → DfaR S w' vn ve D → Calls Try.prog f (#[.agg #[vn, ve]] ++ cs) w' (RBn w' (p D))) :
    Calls Try.prog 59 #[v, .func (.func f) #[] cs] w (RBn w (∃ x ∈ Ds, p x)) := by
  have H := Lib.hid (idxFuncDfa_c v Ds w h f cs p hcf hf)
  clear h hf hcf
  go_enter Try.func59, Try.ntmps59
  go_wp2_with fail
  refine H.out.mono ?_
  rintro e w' ⟨n, rfl, hb, hn⟩
  rcases hn.out with ⟨rfl, h⟩ | ⟨h0, h⟩
  · have h' := Lib.hid h
    clear hn h
    go_wp2
    go_ret
    exact RBn.mk hb ⟨nofun, fun ⟨x, hx, hp⟩ => (h'.out x hx hp).elim⟩
  · have h' := Lib.hid h
    clear hn h
    go_wp2
    go_ret
    exact RBn.mk hb ⟨fun _ => h'.out, fun _ => rfl⟩
theorem notValid_c (vn ve : Value) (D : DfaD) (w : World) (h : DfaR S w vn ve D) : Calls Try.prog 60 (#[.agg #[vn, ve]] ++ #[]) w (RBn w (¬ okD D)) := by
  obtain ⟨a, c, b, d, rfl, rfl, hn, hm⟩ := (h).shapes
  obtain ⟨W, hW⟩ : ∃ W, W = w.alloc (.cells #[.slice a D.1.length c, .slice b D.2.length d] 36) := ⟨_, rfl⟩
  have Hb0 : Hid (Below w.heap.size w W) := by rw [hW]; exact (Below.refl _ _).alloc (Nat.le_refl _) _
  have c0 : W.cell? ⟨w.heap.size, 0, none⟩ = some (.slice a D.1.length c) := by rw [hW, World.cell?_alloc_mark]; rfl
  have c1 : W.cell? ⟨w.heap.size, 1, none⟩ = some (.slice b D.2.length d) := by rw [hW, World.cell?_alloc_mark]; rfl
  have K0 : Hid (W.heap[w.heap.size]? = some (.cells #[.slice a D.1.length c, .slice b D.2.length d] 36 (0, 0))) := by rw [hW]; exact blkNew _ _ rfl
  have Hz : Hid (W.heap.size = w.heap.size + 1) := by rw [hW]; simp [Hid]
  have H := Lib.hid ((h).stay (kpB Hb0.out)); clear h
  have HW := Lib.hid hW; clear hW
  rw [HW.out] at c0 c1
  go_enter Try.func60, Try.ntmps60
  go_wp2_with fail
  clear c0 c1
  rw [← HW.out]
  refine (DfaValid_c _ _ D W H.out).mono ?_
  rintro e w1 ⟨ok, rfl, hb1, hok⟩
  have hB := Lib.hid (Hb0.out.trans (hb1.mono Hb0.out.size))
  clear hb1 HW
  cases ok
  · have hno := Lib.hid (hbF hok); clear hok
    go_wp2
    go_ret
    exact RBn.mk hB.out ⟨fun _ => hno.out, fun _ => rfl⟩
  · have hyes := Lib.hid (hbT hok); clear hok
    go_wp2
    go_ret
    exact RBn.mk hB.out ⟨nofun, fun h => (h hyes.out).elim⟩
theorem body_notValid : HasBody 60 := by
  intro args w
  kernel_rfl
theorem PatternsValid_c (v : Value) (Ds : List DfaD) (w : World) (h : DfaS S w v Ds) : Calls Try.prog 18 #[v] w (RBn w (okP Ds)) := by
  obtain ⟨a, cap, rfl, hn⟩ := h.shape
  have HC := Lib.hid (contFuncDfa_c _ Ds w h 60 #[] (fun D => ¬ okD D) body_notValid (fun D _ vn ve w' _ hd => notValid_c vn ve D w' hd))
  clear h
  go_enter Try.func18, Try.ntmps18
  go_wp2_with fail
  refine (within_c _ _ _ _).mono ?_
  rintro e w' ⟨b1, rfl, rfl, h1⟩
  cases b1
  · have hp := Lib.hid (hbF h1); clear h1
    go_wp2
    go_ret
    exact RBn.mk (Below.refl _ _) ⟨nofun, fun ho => by have := ho.1; exact (hp.out ⟨by omega, by omega⟩).elim⟩
  · have hp1 := Lib.hid (hbT h1); clear h1
    go_wp2_with fail
    refine HC.out.mono ?_
    rintro e w2 ⟨b2, rfl, hb, h2⟩
    clear HC
    cases b2
    · have hp := Lib.hid (hbF h2); clear h2
      go_wp2
      go_ret
      exact RBn.mk hb ⟨fun _ => ⟨⟨by have := hp1.out.1; omega, by have := hp1.out.2; omega⟩, fun D hD => Classical.byContradiction fun hn => hp.out ⟨D, hD, hn⟩⟩, fun _ => rfl⟩
    · have hp := Lib.hid (hbT h2); clear h2
      go_wp2
      go_ret
      exact RBn.mk hb ⟨nofun, fun ho => by obtain ⟨D, hD, hn⟩ := hp.out; exact (hn (ho.2 D hD)).elim⟩
theorem sPatternsValid_c (v : Value) (Ds : List DfaD) (w : World) (h : DfaS S w v Ds) : Calls Try.prog 16 #[v] w (RBn w (okP Ds)) := by
  obtain ⟨a, cap, rfl, hn⟩ := h.shape
  have H := Lib.hid h; clear h
  go_enter Try.func16, Try.ntmps16
  go_wp2
  go_loopw [3] (fun i wr => ∃ k : Nat, k ≤ Ds.length ∧ i = .int .i64 k ∧ Below w.heap.size w wr ∧ Hid (∀ j (hj : j < Ds.length), j < k → okD Ds[j])) (fun i _ => Ds.length - (intOf i).toNat)
  case atStart => exact ⟨0, by omega, rfl, Below.refl _ _, fun j _ hj => absurd hj (Nat.not_lt_zero _)⟩
  case round =>
    obtain ⟨k, hk, rfl, hb, hr⟩ := hrel
    by_cases hlt : k < Ds.length
    · obtain ⟨b, off, vn, ve, rfl, h0, h1, hd⟩ := (H.out.stay (kpB hb)).at hlt
      obtain ⟨x1, x2, x3, x4, rfl, rfl, _, _⟩ := hd.shapes
      have HDD := Lib.hid hd; clear hd
      obtain ⟨x, hx⟩ : ∃ x, x = Ds[k] := ⟨_, rfl⟩
      rw [← hx] at h0 h1 HDD
      have Hx := Lib.hid hx; clear hx
      go_wp2_with fail
      refine (sDfaValid_c _ _ x wr HDD.out).mono ?_
      rintro e w1 ⟨ok, rfl, hb1, hok⟩
      have hB := hb.trans (hb1.mono hb.size)
      clear h0 h1 hb hb1
      cases ok
      · have hno := Lib.hid (hbF hok); clear hok
        go_wp2
        go_ret
        exact RBn.mk hB ⟨nofun, fun ho => (hno.out (by rw [Hx.out]; exact ho.2 _ (List.getElem_mem hlt))).elim⟩
      · have hyes := Lib.hid (hbT hok); clear hok
        go_wp2
        go_roundw
        case rel => exact ⟨k + 1, by omega, by go_num, hB, fun j hj hjk => by
          rcases Nat.lt_succ_iff_lt_or_eq.1 hjk with h | rfl
          · exact hr.out j hj h
          · rw [← Hx.out]; exact hyes.out⟩
        case measure => simp [intOf]; omega
    · obtain rfl : k = Ds.length := by omega
      have hnk : ¬ ((Ds.length : Int) < (Ds.length : Int)) := by omega
      have Hall : Hid (∀ D ∈ Ds, okD D) := fun D hD => by
        obtain ⟨j, hj, rfl⟩ := List.getElem_of_mem hD
        exact hr.out j hj hj
      go_wp2_with fail
      refine (l1In_c _ _ _ _).mono ?_
      rintro e w' ⟨b1, rfl, rfl, h1⟩
      cases b1
      · have hp := Lib.hid (hbF h1); clear h1
        go_wp2
        go_ret
        exact RBn.mk hb ⟨nofun, fun ho => by have := ho.1; exact (hp.out ⟨by omega, by omega⟩).elim⟩
      · have hp1 := Lib.hid (hbT h1); clear h1
        go_wp2
        go_ret
        exact RBn.mk hb ⟨fun _ => ⟨⟨by have := hp1.out.1; omega, by have := hp1.out.2; omega⟩, Hall.out⟩, fun _ => rfl⟩
end Go.Proofs.Ythdbgpdidolmaaa
