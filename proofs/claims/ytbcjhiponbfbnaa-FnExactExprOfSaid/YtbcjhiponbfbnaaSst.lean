/- States with the same language: the program's refinement. Valid automata. -/
import Derived.StillTailTactics
import Derived.Deep.LoopGhost
import Derived.Test.YtbcjhiponbfbnaaGB
set_option linter.unusedSimpArgs false
set_option linter.unusedVariables false
set_option linter.unusedSectionVars false
namespace Go.Proofs.Ytbcjhiponbfbnaa
open Go.RowKit
set_option maxRecDepth 100000
variable {S T : Nat → Prop}

set_option maxHeartbeats 400000 in
theorem indexBool_c (v : Value) (xs : List Bool) (x : Bool) (k : Nat) (w : World) (h : Bools S w v xs) (hk : k < xs.length) (hx : xs[k] = x) (hm : ∀ j (hj : j < k), xs[j] ≠ x) :
    Calls Try.prog 144 #[v, .bool x] w (fun e w' => e = .returned (.int .i64 k) ∧ w' = w) := by
  obtain ⟨a, cap, rfl, hn⟩ := h.shape
  have H := Lib.hid h; clear h
  have HX := Lib.hid hx; clear hx
  have HM := Lib.hid hm; clear hm
  go_enter Try.func144, Try.ntmps144
  go_wp2
  go_loop [8] (fun i => ∃ j : Nat, j ≤ k ∧ i = .int .i64 j) (fun i => xs.length - (intOf i).toNat)
  case atStart => exact ⟨0, by omega, rfl⟩
  case round =>
    obtain ⟨j, hj, rfl⟩ := hrel
    obtain ⟨b, off, rfl, hc⟩ := H.out.at (k := j) (by omega)
    rcases Nat.lt_or_ge j k with hlt | hge
    · have hne : (x == xs[j]'(by omega)) = false := by
        have := HM.out j hlt
        cases hh : (x == xs[j]'(by omega))
        · rfl
        · simp only [beq_iff_eq] at hh; exact absurd hh.symm this
      have hjl : j < xs.length := by omega
      generalize xs[j]'(by omega) = y at *
      go_wp2
      go_round
      case rel => exact ⟨j + 1, by omega, by go_num⟩
      case measure => simp [intOf]; omega
    · obtain rfl : j = k := by omega
      have he : (x == xs[j]'(by omega)) = true := by rw [HX.out]; simp
      have hjl : j < xs.length := by omega
      generalize xs[j]'(by omega) = y at *
      go_wp2
      go_ret
      exact ⟨rfl, rfl⟩
set_option maxHeartbeats 400000 in
theorem equalInt_c (v u : Value) (xs ys : List Int) (w : World) (hv : Ints S w v xs) (hu : Ints T w u ys) (hl : xs.length = ys.length) : Calls Try.prog 146 #[v, u] w (RBn w (xs = ys)) := by
  obtain ⟨a, ca, rfl, hn⟩ := hv.shape
  obtain ⟨b, cb, rfl, _⟩ := hu.shape
  rw [← hl] at hu ⊢
  have HL := Lib.hid hl; clear hl
  have HV := Lib.hid hv; clear hv
  have HU := Lib.hid hu; clear hu
  have hne : ((xs.length : Int) != (xs.length : Int)) = false := by simp
  go_enter Try.func146, Try.ntmps146
  go_wp2
  go_loopw [13] (fun i wr => ∃ k : Nat, k ≤ xs.length ∧ i = .int .i64 k ∧ (∃ q, wr = w.drewN q) ∧ Hid (xs.take k = ys.take k)) (fun i _ => xs.length - (intOf i).toNat)
  case atStart => exact ⟨0, by omega, rfl, ⟨0, rfl⟩, by simp [Hid]⟩
  case round =>
    obtain ⟨k, hk, rfl, ⟨q, rfl⟩, Ht⟩ := hrel
    by_cases hlt : k < xs.length
    · have hlt2 : k < ys.length := by rw [← HL.out]; exact hlt
      obtain ⟨ba, oa, rfl, hca⟩ := HV.out.at hlt
      obtain ⟨bb, ob, rfl, hcb⟩ := HU.out.at hlt2
      have h1 := Lib.hid (List.take_succ_eq_append_getElem hlt)
      have h2 := Lib.hid (List.take_succ_eq_append_getElem hlt2)
      have h3 : Hid (xs[k] ≠ ys[k] → xs ≠ ys) := fun hne he => hne (by subst he; rfl)
      obtain ⟨x, hx⟩ : ∃ x, x = xs[k] := ⟨_, rfl⟩
      obtain ⟨y, hy⟩ : ∃ y, y = ys[k] := ⟨_, rfl⟩
      rw [← hx] at hca h1 h3
      rw [← hy] at hcb h2 h3
      clear hx hy
      by_cases hxy : x = y
      · have hb : (x != y) = false := by simp [hxy]
        have Hxy := Lib.hid hxy; clear hxy
        go_wp2_with fail
        go_quiet (fail)
        go_wp2
        go_roundw
        case rel => exact ⟨k + 1, by omega, by go_num, ⟨_, rfl⟩, by rw [h1.out, h2.out, Ht.out, Hxy.out]; rfl⟩
        case measure => simp [intOf]; omega
      · have hb : (x != y) = true := by simp [hxy]
        have Hxy := Lib.hid hxy; clear hxy
        go_wp2_with fail
        go_quiet (fail)
        go_wp2
        go_ret
        exact RBn.mk (belDrewN (belReflN _ _ _) _) ⟨nofun, fun he => (h3.out Hxy.out he).elim⟩
    · obtain rfl : k = xs.length := by omega
      have he : Hid (xs = ys) := by
        have := Ht.out
        rw [List.take_of_length_le (Nat.le_refl _), HL.out, List.take_of_length_le (Nat.le_refl _)] at this
        exact this
      go_wp2
      go_ret
      exact RBn.mk (belReflN _ _ _) ⟨fun _ => he.out, fun _ => rfl⟩
/-- The next classes of two states are the same. -/
def nextSame (D : DfaD) (f : Nat → Nat) (s o : Nat) : Prop := f (dn D s 0) = f (dn D o 0) ∧ f (dn D s 1) = f (dn D o 1) ∧ f (dn D s 2) = f (dn D o 2)
/-- A function of the states as a list. -/
def fL (D : DfaD) (f : Nat → Nat) : List Int := (List.range D.1.length).map fun s => ((f s : Nat) : Int)
theorem fL_len (D : DfaD) (f : Nat → Nat) : (fL D f).length = D.1.length := by simp [fL]
theorem fL_get (D : DfaD) (f : Nat → Nat) {s : Nat} (h : s < D.1.length) : (fL D f)[s]'(by rw [fL_len]; exact h) = (f s : Int) := by simp [fL]
theorem fL_at {w : World} {D : DfaD} {f : Nat → Nat} {a : Option Addr} {n cap : Nat} (h : Ints S w (.slice a n cap) (fL D f)) {s : Nat} (hs : s < D.1.length) : ∃ b off, a = some ⟨b, off, none⟩ ∧ w.cell? ⟨b, off + s, none⟩ = some (.int .i64 ((f s : Nat) : Int)) := by
  obtain ⟨b, off, e, hc⟩ := h.at (k := s) (by rw [fL_len]; exact hs)
  exact ⟨b, off, e, by rw [hc, fL_get D f hs]⟩
set_option maxHeartbeats 1000000 in
theorem sameRow_c (vn ve v : Value) (D : DfaD) (f : Nat → Nat) (s o : Nat) (w : World) (h : DfaR S w vn ve D) (hv : Ints T w v (fL D f)) (hD : okD D) (hs : s < D.1.length) (ho : o < D.1.length) :
    Calls Try.prog 145 #[.agg #[vn, ve], v, .int .i64 s, .int .i64 o] w (RBn w (nextSame D f s o)) := by
  obtain ⟨a, c, b, d, rfl, rfl, hn, hm⟩ := (h).shapes
  obtain ⟨W, hW⟩ : ∃ W, W = w.alloc (.cells #[.slice a D.1.length c, .slice b D.2.length d] 52) := ⟨_, rfl⟩
  have Hb0 : Hid (Below w.heap.size w W) := by rw [hW]; exact (Below.refl _ _).alloc (Nat.le_refl _) _
  have c0 : W.cell? ⟨w.heap.size, 0, none⟩ = some (.slice a D.1.length c) := by rw [hW, World.cell?_alloc_mark]; rfl
  have c1 : W.cell? ⟨w.heap.size, 1, none⟩ = some (.slice b D.2.length d) := by rw [hW, World.cell?_alloc_mark]; rfl
  have K0 : Hid (W.heap[w.heap.size]? = some (.cells #[.slice a D.1.length c, .slice b D.2.length d] 52 (0, 0))) := by rw [hW]; exact blkNew _ _ rfl
  have Hz : Hid (W.heap.size = w.heap.size + 1) := by rw [hW]; simp [Hid]
  have H := Lib.hid ((h).stay (kpB Hb0.out)); clear h
  have HW := Lib.hid hW; clear hW
  have HD := Lib.hid hD
  have hn40 : D.1.length ≤ 40 := hD.1.2
  clear hD
  obtain ⟨a3, cap3, rfl, _⟩ := hv.shape
  rw [fL_len] at hv ⊢
  have HV := Lib.hid (hv.stay (kpB Hb0.out)); clear hv
  go_enter Try.func145, Try.ntmps145
  go_wp2
  rw [← HW.out]
  go_loopw [10] (fun i wr => ∃ c : Nat, c ≤ 3 ∧ i = .int .i64 c ∧ (∃ q, wr = W.drewN q) ∧ Hid (∀ j, j < c → f (dn D s j) = f (dn D o j))) (fun i _ => 3 - (intOf i).toNat)
  case atStart => exact ⟨0, by omega, rfl, ⟨0, rfl⟩, fun j hj => absurd hj (Nat.not_lt_zero _)⟩
  case round =>
    obtain ⟨c, hc, rfl, ⟨q, rfl⟩, Hj⟩ := hrel
    by_cases hlt : c < 3
    · obtain ⟨bn, on, br, or_, cr, e1, hs1, hs2, hs3⟩ := H.out.step HD.out hs hlt
      cases e1
      obtain ⟨bn', on', br', or', cr', e1, ht1, ht2, ht3⟩ := H.out.step HD.out ho hlt
      cases e1
      obtain ⟨bf, of, e1, hf1⟩ := fL_at HV.out hs3
      cases e1
      obtain ⟨bf', of', e1, hf2⟩ := fL_at HV.out ht3
      cases e1
      have Hn : Hid (nextSame D f s o → f (dn D s c) = f (dn D o c)) := fun hh => by
        have : c = 0 ∨ c = 1 ∨ c = 2 := by omega
        rcases this with rfl | rfl | rfl
        · exact hh.1
        · exact hh.2.1
        · exact hh.2.2
      have Hjc : Hid (f (dn D s c) = f (dn D o c) → ∀ j, j < c + 1 → f (dn D s j) = f (dn D o j)) := fun he j hj => by
        rcases Nat.lt_succ_iff_lt_or_eq.1 hj with h | rfl
        · exact Hj.out j h
        · exact he
      obtain ⟨u, hu⟩ : ∃ u, u = dn D s c := ⟨_, rfl⟩
      obtain ⟨u', hu'⟩ : ∃ u, u = dn D o c := ⟨_, rfl⟩
      rw [← hu] at hs2 hs3 hf1 Hn Hjc
      rw [← hu'] at ht2 ht3 hf2 Hn Hjc
      clear hu hu'
      have hsI : (s : Int) < (D.1.length : Int) := by omega
      have hoI : (o : Int) < (D.1.length : Int) := by omega
      have huI : (u : Int) < (D.1.length : Int) := by omega
      have huI' : (u' : Int) < (D.1.length : Int) := by omega
      have hcI : (c : Int) < 3 := by omega
      by_cases hxy : f u = f u'
      · have hb : (((f u : Nat) : Int) != ((f u' : Nat) : Int)) = false := by simp [hxy]
        have Hxy := Lib.hid hxy; clear hxy
        generalize f u = x at *
        generalize f u' = y at *
        go_wp2_with fail
        go_quiet (fail)
        go_wp2
        go_roundw
        case rel => exact ⟨c + 1, by omega, by go_num, ⟨_, rfl⟩, Hjc.out Hxy.out⟩
        case measure => simp [intOf]; omega
      · have hb : (((f u : Nat) : Int) != ((f u' : Nat) : Int)) = true := by simp; omega
        have Hxy := Lib.hid hxy; clear hxy
        generalize f u = x at *
        generalize f u' = y at *
        go_wp2_with fail
        go_quiet (fail)
        go_wp2
        go_ret
        exact RBn.mk (belDrewN (belDrewN Hb0.out _) _) ⟨nofun, fun hh => (Hxy.out (Hn.out hh)).elim⟩
    · obtain rfl : c = 3 := by omega
      go_wp2
      go_ret
      exact RBn.mk (belDrewN Hb0.out _) ⟨fun _ => ⟨Hj.out 0 (by omega), Hj.out 1 (by omega), Hj.out 2 (by omega)⟩, fun _ => rfl⟩
theorem fc_zero_mark {D : DfaD} (hD : okD D) {k : Nat} (hk : k < D.1.length) : ∃ h : fc D 0 k < D.2.length, D.2[fc D 0 k] = de D k ∧ ∀ j (hj : j < fc D 0 k), D.2[j] ≠ de D k := by
  have hl : fc D 0 k < D.1.length := Nat.lt_of_le_of_lt (fc_le D 0 k) hk
  refine ⟨by rw [hD.2.1]; exact hl, ?_, fun j hj he => ?_⟩
  · rw [de_cell hD hl]; exact (eqv_zero D).1 (fc_eqv D 0 k)
  · rw [de_cell hD (by omega)] at he
    exact fc_least D 0 k hj ((eqv_zero D).2 he)
theorem stepOk {D : DfaD} {k t s : Nat} : eqv D (k + 1) t s ↔ fc D k t = fc D k s ∧ nextSame D (fc D k) t s := by
  rw [eqv_succ]
  unfold nextSame
  simp only [fc_same]
set_option maxHeartbeats 4000000 in
theorem sameStates_c (vn ve : Value) (D : DfaD) (w : World) (h : DfaR S w vn ve D) (hD : okD D) :
    Calls Try.prog 109 #[.agg #[vn, ve]] w (RVn w fun v w' => ∃ g, v = .slice (some ⟨g, 0, none⟩) D.1.length D.1.length ∧ w.heap.size < g ∧ RowI w' g (fL D (cls D))) := by
  obtain ⟨a, c, b, d, rfl, rfl, hn, hm⟩ := (h).shapes
  obtain ⟨W, hW⟩ : ∃ W, W = w.alloc (.cells #[.slice a D.1.length c, .slice b D.2.length d] 52) := ⟨_, rfl⟩
  have Hb0 : Hid (Below w.heap.size w W) := by rw [hW]; exact (Below.refl _ _).alloc (Nat.le_refl _) _
  have c0 : W.cell? ⟨w.heap.size, 0, none⟩ = some (.slice a D.1.length c) := by rw [hW, World.cell?_alloc_mark]; rfl
  have c1 : W.cell? ⟨w.heap.size, 1, none⟩ = some (.slice b D.2.length d) := by rw [hW, World.cell?_alloc_mark]; rfl
  have K0 : Hid (W.heap[w.heap.size]? = some (.cells #[.slice a D.1.length c, .slice b D.2.length d] 52 (0, 0))) := by rw [hW]; exact blkNew _ _ rfl
  have Hz : Hid (W.heap.size = w.heap.size + 1) := by rw [hW]; simp [Hid]
  have H := Lib.hid ((h).stay (kpB Hb0.out)); clear h
  have HW := Lib.hid hW; clear hW
  have HD := Lib.hid hD
  have Hdl := Lib.hid hD.2.1
  have hn40 : D.1.length ≤ 40 := hD.1.2
  clear hD
  rw [HW.out] at c0 c1
  go_enter Try.func109, Try.ntmps109
  go_wp2_with (at_make; refine makeRow ezInt (by decide) rfl (.tmp 10) (.tmp 10) rfl D.1.length _ rfl rfl (by omega) ?_; rw [← HW.out]; intro w1 hr1 hb1 hz1)
  clear c0 c1
  obtain ⟨B1, hB1⟩ : ∃ B1, B1 = W.heap.size := ⟨_, rfl⟩
  rw [← hB1] at hr1
  rw [← hB1]
  have hWB : W.heap.size ≤ B1 := by rw [hB1]; exact Nat.le_refl _
  clear hB1 hz1
  go_loopw [14] (fun i wr => ∃ k : Nat, k ≤ D.1.length ∧ i = .int .i64 k ∧ Below W.heap.size W wr ∧ Hid (RowI wr B1 (part D.1.length k (fun s => ((fc D 0 s : Nat) : Int)) 0))) (fun i _ => D.1.length - (intOf i).toNat)
  case atStart => exact ⟨0, by omega, rfl, hb1, by rw [part_zero]; exact hr1⟩
  case round =>
    clear hb1 hr1
    obtain ⟨k, hk, rfl, hb, hr⟩ := hrel
    by_cases hlt : k < D.1.length
    · obtain ⟨c0, c1, _, _⟩ := blk2 (blkBel hb K0.out)
      obtain ⟨be, oe, rfl, he⟩ := (H.out.stay (kpB hb)).mark HD.out hlt
      have hlt2 : k < D.2.length := by rw [Hdl.out]; exact hlt
      have HE : Hid (Bools S wr.drew (.slice (some ⟨be, oe, none⟩) D.2.length d) D.2) := (H.out.stay (kpB hb)).2
      have hc := hr.out.cell (i := k) (by rw [part_len]; exact hlt)
      have hfz := hr.out.fz k
      have HF := Lib.hid (fc_zero_mark HD.out hlt)
      have hfl : fc D 0 k < D.1.length := Nat.lt_of_le_of_lt (fc_le D 0 k) hlt
      have hkI : (k : Int) < (D.1.length : Int) := by omega
      have hkI2 : (k : Int) < (D.2.length : Int) := by omega
      obtain ⟨u, hu⟩ : ∃ u, wr.cell? ⟨B1, k, none⟩ = some u := ⟨_, hc⟩
      clear hc
      go_wp2_with fail
      refine wp_region_still_tail 11 (by kernel_rfl) (by kernel_rfl) ?_
      simp only [List.take_succ_cons, List.take_zero, List.drop_succ_cons, List.drop_zero]
      repeat still_step
      still_call (indexBool_c _ D.2 (de D k) (fc D 0 k) _ HE.out HF.out.1 HF.out.2.1 HF.out.2.2)
      repeat still_step
      refine wpStill_nil ?_
      change wpList _ _ _ _ _ wr.drew
      have hr2 : RowI wr.drew B1 _ := hr.out
      have hbD : Below W.heap.size W wr.drew := hb.drew
      have hu2 : wr.drew.cell? ⟨B1, k, none⟩ = some u := hu
      have hfz2 : wr.drew.frozen? ⟨B1, k, none⟩ = false := hfz
      clear hr hb hu hfz HE he c0 c1
      generalize wr.drew = w2 at *
      have hr3 := hr2.set k ((fc D 0 k : Nat) : Int)
      rw [part_set (fun s => ((fc D 0 s : Nat) : Int)) 0 hlt] at hr3
      have Hr3 := Lib.hid hr3
      have hB3 : Below W.heap.size W (w2.setCell ⟨B1, k, none⟩ (.int .i64 ((fc D 0 k : Nat) : Int))) := hbD.setCell hWB _
      clear hr2 hr3 hbD HF
      generalize fc D 0 k = z at *
      go_wp2
      go_roundw
      case rel => exact ⟨k + 1, by omega, by go_num, hB3, Hr3⟩
      case measure => simp [intOf]; omega
    · obtain rfl : k = D.1.length := by omega
      have hr2 : Hid (RowI wr B1 (fL D (fc D 0))) := by have := hr.out; rw [part_all] at this; exact this
      clear hr
      go_wp2_with fail
      go_loopg [3, 5] (D.1.length + 1 - nc D 0) (fun m c a wr => ∃ (k g : Nat) (bb : Bool), c = .slice (some ⟨g, 0, none⟩) D.1.length D.1.length ∧ a = .bool bb ∧ W.heap.size ≤ g ∧ Below W.heap.size W wr ∧ Hid (RowI wr g (fL D (fc D k))) ∧ Hid (bb = true → D.1.length + 1 - nc D k ≤ m) ∧ Hid (bb = false → ∀ s, s < D.1.length → fc D k s = cls D s))
      case atStart => exact ⟨0, B1, true, rfl, rfl, hWB, hb, hr2, fun _ => Nat.le_refl _, nofun⟩
      case round =>
        clear hb hr2 hWB
        obtain ⟨k, g, bb, rfl, rfl, hg, hb, hr, Hm, Hst⟩ := hrel
        cases bb
        · have hst : Hid (fL D (fc D k) = fL D (cls D)) := by
            unfold fL Hid
            apply List.map_congr_left
            intro s hs
            rw [Hst.out rfl s (List.mem_range.1 hs)]
          have hgl : w.heap.size < g := by have := Hz.out; omega
          have hB := Hb0.out.trans (hb.mono Hb0.out.size)
          clear hb Hm Hst
          go_wp2
          go_ret
          exact RVn.mk hB ⟨g, rfl, hgl, by rw [← hst.out]; exact hr.out⟩
        · have hm := Hm.out rfl
          have hnc := nc_le D k
          clear Hst Hm
          have hgl := hr.out.lt
          go_wp2_with (at_make; refine makeRow ezInt (by decide) rfl (.tmp 31) (.tmp 31) rfl D.1.length _ rfl rfl (by omega) ?_; intro w3 hr3 hb3 hz3)
          have hb4 := hb.trans (hb3.mono hb.size)
          have hr4 := Lib.hid (hr.out.stay hb3)
          obtain ⟨g2, hg2⟩ : ∃ g2, g2 = wr.heap.size := ⟨_, rfl⟩
          rw [← hg2] at hr3 hgl
          rw [← hg2]
          have hgg : g ≠ g2 := by omega
          have hWg2 : W.heap.size ≤ g2 := by rw [hg2]; exact hb.size
          clear hg2 hz3 hb3 hb hr
          go_loopw [35] (fun i wr => ∃ s : Nat, s ≤ D.1.length ∧ i = .int .i64 s ∧ Below W.heap.size W wr ∧ Hid (RowI wr g (fL D (fc D k))) ∧ Hid (RowI wr g2 (part D.1.length s (fun s => ((fc D (k + 1) s : Nat) : Int)) 0))) (fun i _ => D.1.length - (intOf i).toNat)
          case atStart => exact ⟨0, by omega, rfl, hb4, hr4, by rw [part_zero]; exact hr3⟩
          case round =>
            clear hr3 hr4 hb4
            obtain ⟨s, hs, rfl, hb, hr, hq⟩ := hrel
            by_cases hsl : s < D.1.length
            · go_wp2_with fail
              have HI0 : Hid (RowI wr g2 ((part D.1.length s (fun s => ((fc D (k + 1) s : Nat) : Int)) 0).set s ((0 : Nat) : Int))) := by
                have e : (part D.1.length s (fun s => ((fc D (k + 1) s : Nat) : Int)) 0).set s ((0 : Nat) : Int) = part D.1.length s (fun s => ((fc D (k + 1) s : Nat) : Int)) 0 := by
                  apply List.ext_getElem
                  · simp
                  · intro i h1 h2
                    rw [List.getElem_set]
                    split
                    · rename_i e; subst e; rw [part_get hsl, if_neg (Nat.lt_irrefl _)]; rfl
                    · rfl
                rw [e]; exact hq
              go_loopg [] s (fun m wr => ∃ t : Nat, t + m = s ∧ Below W.heap.size W wr ∧ Hid (RowI wr g (fL D (fc D k))) ∧ Hid (RowI wr g2 ((part D.1.length s (fun s => ((fc D (k + 1) s : Nat) : Int)) 0).set s ((t : Nat) : Int))) ∧ Hid (∀ j, j < t → ¬ eqv D (k + 1) j s))
              case atStart => exact ⟨0, by omega, hb, hr, HI0, fun j hj => absurd hj (Nat.not_lt_zero _)⟩
              case round =>
                clear hb hr hq HI0
                obtain ⟨t, htm, hb, hr, hq, Hj⟩ := hrel
                have hts : t ≤ s := by omega
                have Htm := Lib.hid htm; clear htm
                have htl : t < D.1.length := by omega
                obtain ⟨c0, c1, _, _⟩ := blk2 (blkBel hb K0.out)
                have hct := hr.out.cell (i := t) (by rw [fL_len]; exact htl)
                rw [fL_get D (fc D k) htl] at hct
                have hcs := hr.out.cell (i := s) (by rw [fL_len]; exact hsl)
                rw [fL_get D (fc D k) hsl] at hcs
                have hcq := hq.out.cell (i := s) (by rw [List.length_set, part_len]; exact hsl)
                rw [List.getElem_set_self] at hcq
                have hfz := hq.out.fz s
                have hsI : (s : Int) < (D.1.length : Int) := by omega
                have htI : (t : Int) < (D.1.length : Int) := by omega
                have Hstep : Hid (eqv D (k + 1) t s ↔ fc D k t = fc D k s ∧ nextSame D (fc D k) t s) := stepOk
                have Hne : Hid (¬ eqv D (k + 1) t s → t < s) := fun hn => by
                  rcases Nat.lt_or_ge t s with h | h
                  · exact h
                  · obtain rfl : t = s := by omega
                    exact (hn (eqv_refl D _ _)).elim
                have HRV : Hid (Ints (· = g) wr (.slice (some ⟨g, 0, none⟩) D.1.length D.1.length) (fL D (fc D k))) := by
                  have := Row.fl hr.out (n := D.1.length) (cap := D.1.length) (fL_len D _).symm (Nat.le_refl _) (by unfold maxLen; omega)
                  exact this
                by_cases he : fc D k t = fc D k s
                · have hbn : (((fc D k t : Nat) : Int) != ((fc D k s : Nat) : Int)) = false := by simp [he]
                  have He := Lib.hid he; clear he
                  generalize fc D k t = x at *
                  generalize fc D k s = y at *
                  go_wp2_with fail
                  go_still_tail 20, (by kernel_rfl)
                  change wpList _ _ _ _ _ wr.drew
                  have hr2 : Hid (RowI wr.drew g _) := hr.out
                  have hq2 : Hid (RowI wr.drew g2 _) := hq.out
                  have hbD : Below W.heap.size W wr.drew := hb.drew
                  have HRV2 : Hid (Ints (· = g) wr.drew _ _) := HRV.out
                  clear hr hq hb HRV hct hcs hcq hfz c0 c1
                  generalize wr.drew = w2 at *
                  go_wp2_with fail
                  refine (sameRow_c _ _ _ D (fc D k) t s _ (H.out.stay (kpB hbD)) HRV2.out HD.out htl hsl).mono ?_
                  rintro e w4 ⟨b2, rfl, hb2, hv2⟩
                  have hbb := hbD.trans (hb2.mono hbD.size)
                  have hr3 := Lib.hid (hr2.out.stay hb2)
                  have hq3 := Lib.hid (hq2.out.stay hb2)
                  clear hr2 hq2 hbD HRV2 hb2
                  cases b2
                  · have hnn : ¬ eqv D (k + 1) t s := fun hh => hbF hv2 (Hstep.out.1 hh).2
                    have hlt := Hne.out hnn
                    have Hnn := Lib.hid hnn
                    clear hnn hv2
                    have hcq := hq3.out.cell (i := s) (by rw [List.length_set, part_len]; exact hsl)
                    rw [List.getElem_set_self] at hcq
                    have hfz := hq3.out.fz s
                    have hq4 := hq3.out.set s (((t : Nat) : Int) + 1)
                    rw [List.set_set] at hq4
                    have Hq4 := Lib.hid hq4
                    have Hr4 := Lib.hid (hr3.out.far (c := g2) (o := s) hgg (.int .i64 (((t : Nat) : Int) + 1)))
                    have hB4 : Below W.heap.size W (w4.setCell ⟨g2, s, none⟩ (.int .i64 (((t : Nat) : Int) + 1))) := hbb.setCell hWg2 _
                    clear hq4 hq3 hr3 hbb
                    go_wp2
                    go_roundg (gk - 1)
                    case measure => have := Htm.out; omega
                    case rel => exact ⟨t + 1, by have := Htm.out; omega, hB4, Hr4, by rw [Int.natCast_succ]; exact Hq4, fun j hj => by
                      rcases Nat.lt_succ_iff_lt_or_eq.1 hj with h | rfl
                      · exact Hj.out j h
                      · exact Hnn.out⟩
                  · have hyy := Lib.hid (Hstep.out.2 ⟨He.out, hbT hv2⟩)
                    have Hfc : Hid (fc D (k + 1) s = t) := fc_eq D hyy.out Hj.out
                    have hq4 := hq3.out
                    rw [← Hfc.out] at hq4
                    rw [part_set (fun s => ((fc D (k + 1) s : Nat) : Int)) 0 hsl] at hq4
                    have Hq4 := Lib.hid hq4
                    clear hv2 hq4 hq3
                    go_wp2
                    go_roundw
                    case rel => exact ⟨s + 1, by omega, by go_num, hbb, hr3, Hq4⟩
                    case measure => simp [intOf]; omega
                · have hbn : (((fc D k t : Nat) : Int) != ((fc D k s : Nat) : Int)) = true := by simp; omega
                  have hnn : ¬ eqv D (k + 1) t s := fun hh => he (Hstep.out.1 hh).1
                  have hlt := Hne.out hnn
                  have Hnn := Lib.hid hnn
                  clear hnn he
                  generalize fc D k t = x at *
                  generalize fc D k s = y at *
                  go_wp2_with fail
                  go_quiet (fail)
                  have hbD : Below W.heap.size W (wr.drewN nq) := belDrewN hb _
                  have hr3 : Hid (RowI (wr.drewN nq) g _) := hr.out
                  have hq3 : Hid (RowI (wr.drewN nq) g2 _) := hq.out
                  have hcq2 : (wr.drewN nq).cell? ⟨g2, s, none⟩ = some (.int .i64 ((t : Nat) : Int)) := hcq
                  have hfz2 : (wr.drewN nq).frozen? ⟨g2, s, none⟩ = false := hfz
                  clear hr hq hb HRV hct hcs hcq hfz c0 c1
                  generalize wr.drewN nq = w4 at *
                  have hq4 := hq3.out.set s (((t : Nat) : Int) + 1)
                  rw [List.set_set] at hq4
                  have Hq4 := Lib.hid hq4
                  have Hr4 := Lib.hid (hr3.out.far (c := g2) (o := s) hgg (.int .i64 (((t : Nat) : Int) + 1)))
                  have hB4 : Below W.heap.size W (w4.setCell ⟨g2, s, none⟩ (.int .i64 (((t : Nat) : Int) + 1))) := hbD.setCell hWg2 _
                  clear hq4 hq3 hr3 hbD
                  go_wp2
                  go_roundg (gk - 1)
                  case measure => have := Htm.out; omega
                  case rel => exact ⟨t + 1, by have := Htm.out; omega, hB4, Hr4, by rw [Int.natCast_succ]; exact Hq4, fun j hj => by
                    rcases Nat.lt_succ_iff_lt_or_eq.1 hj with h | rfl
                    · exact Hj.out j h
                    · exact Hnn.out⟩
            · obtain rfl : s = D.1.length := by omega
              have hq2 : Hid (RowI wr g2 (fL D (fc D (k + 1)))) := by have := hq.out; rw [part_all] at this; exact this
              clear hq
              have HI1 : Hid (Ints (· = g2) wr (.slice (some ⟨g2, 0, none⟩) D.1.length D.1.length) (fL D (fc D (k + 1)))) := by
                have := Row.fl hq2.out (n := D.1.length) (cap := D.1.length) (fL_len D _).symm (Nat.le_refl _) (by unfold maxLen; omega)
                exact this
              have HI2 : Hid (Ints (· = g) wr (.slice (some ⟨g, 0, none⟩) D.1.length D.1.length) (fL D (fc D k))) := by
                have := Row.fl hr.out (n := D.1.length) (cap := D.1.length) (fL_len D _).symm (Nat.le_refl _) (by unfold maxLen; omega)
                exact this
              go_wp2_with fail
              refine (equalInt_c _ _ _ _ wr HI1.out HI2.out (by rw [fL_len, fL_len])).mono ?_
              rintro e w4 ⟨b2, rfl, hb2, hv2⟩
              have hbb := hb.trans (hb2.mono hb.size)
              have hq3 := Lib.hid (hq2.out.stay hb2)
              clear hb hb2 HI1 HI2 hq2 hr
              cases b2
              · have hne := hbF hv2
                have hlt := nc_lt D (k := k) (fun hh => hne (by
                  unfold fL
                  apply List.map_congr_left
                  intro s hs
                  rw [hh s (List.mem_range.1 hs)]))
                have Hlt := Lib.hid hlt
                have hn1 := nc_le D (k + 1)
                clear hv2 hne hlt
                go_wp2
                go_roundg (gk - 1)
                case measure => omega
                case rel => exact ⟨k + 1, g2, true, rfl, rfl, hWg2, hbb, hq3, fun _ => by have := Hlt.out; omega, nofun⟩
              · have he := hbT hv2
                have hall : ∀ s, s < D.1.length → fc D k s = fc D (k + 1) s := fun s hs => by
                  have h1 := fL_get D (fc D (k + 1)) hs
                  have h2 := fL_get D (fc D k) hs
                  simp only [he] at h1
                  rw [h1] at h2
                  exact (Int.ofNat.inj h2).symm
                have hfin : Hid (∀ s, s < D.1.length → fc D (k + 1) s = cls D s) := fun s hs => by
                  rw [← hall s hs]
                  exact fc_cls D HD.out (fun s t hs ht he => fc_stable_eqv D hall hs ht he) hs
                clear hv2 he hall
                go_wp2
                go_roundg (gk - 1)
                case measure => omega
                case rel => exact ⟨k + 1, g2, false, rfl, rfl, hWg2, hbb, hq3, nofun, fun _ => hfin.out⟩
end Go.Proofs.Ytbcjhiponbfbnaa
