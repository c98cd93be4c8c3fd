/- The longest words: the program's and the reference's. -/
import Derived.Test.YtofamhgkiipagaaLng
import Derived.Test.YtofamhgkiipagaaRov
import Derived.Test.YtofamhgkiipagaaLed
import Derived.Test.YtofamhgkiipagaaSml
import Derived.Test.YtofamhgkiipagaaDsm
import Derived.Test.YtofamhgkiipagaaRow
import Derived.StillTailTactics
namespace Go.Proofs.Ytofamhgkiipagaa
open Go.RowKit
set_option maxRecDepth 100000
variable {S T : Nat → Prop}
theorem canon_lg {D : DfaD} (h : okD D) : lgD (canon (lgD D)) = lgD D := by
  rw [← small_eq h, trim_lg (sml_ok (trim_ok h))]
  exact (sml_lg (trim_ok h) (trim_ok h).1.1).trans (trim_lg h)
open Classical in
noncomputable def llV (D : DfaD) : Int := if okD D then lngL (lgD D) else -3
theorem llV_pos {D : DfaD} (h : okD D) : llV D = lngL (lgD D) := if_pos h
theorem llV_neg {D : DfaD} (h : ¬ okD D) : llV D = -3 := if_neg h
/-- A list of numbers, one a state. -/
def nl (n : Nat) (f : Nat → Nat) : List Int := (List.range n).map fun s => ((f s : Nat) : Int)
theorem nl_len (n : Nat) (f : Nat → Nat) : (nl n f).length = n := by simp [nl]
theorem nl_get (n : Nat) (f : Nat → Nat) {s : Nat} (h : s < n) : (nl n f)[s]'(by rw [nl_len]; exact h) = (f s : Int) := by simp [nl]
/-- A list of bools, one a state. -/
def bl (n : Nat) (f : Nat → Bool) : List Bool := (List.range n).map f
theorem bl_len (n : Nat) (f : Nat → Bool) : (bl n f).length = n := by simp [bl]
theorem bl_get (n : Nat) (f : Nat → Bool) {s : Nat} (h : s < n) : (bl n f)[s]'(by rw [bl_len]; exact h) = f s := by simp [bl]
theorem bl_set (n : Nat) (o : Nat → Bool) (k : Nat) (b : Bool) : (bl n o).set k b = bl n (upd o k b) := by
  apply List.ext_getElem (by simp [bl])
  intro i h1 h2
  have hi : i < n := by rw [bl_len] at h2; exact h2
  by_cases e : k = i
  · subst e
    rw [List.getElem_set_self]
    simp [bl, upd_same]
  · rw [List.getElem_set_ne e]
    simp [bl, upd_ne o b (Ne.symm e)]
theorem bl_congr {n : Nat} {o o' : Nat → Bool} (h : ∀ s, o s = o' s) : bl n o = bl n o' := by rw [show o = o' from funext h]
theorem bl_rep (n : Nat) : List.replicate n false = bl n (fun _ => false) := by apply List.ext_getElem <;> simp [bl]
set_option maxHeartbeats 2000000 in
theorem l17Longest_c (vn ve : Value) (gu cu : Nat) (D : DfaD) (w : World) (h : DfaR S w vn ve D) (hD : okD D) (hu : ∀ s, s < D.1.length → w.cell? ⟨gu, s, none⟩ = some (.bool (leadB D s))) (hcu : D.1.length ≤ cu) :
    Calls Try.prog 80 #[.agg #[vn, ve], .slice (some ⟨gu, 0, none⟩) D.1.length cu] w (RVn w fun v w' => ∃ g, v = .slice (some ⟨g, 0, none⟩) D.1.length D.1.length ∧ RowI w' g (nl D.1.length (bs D (D.1.length + 1)))) := by
  obtain ⟨a, c, b, d, rfl, rfl, hn, hm⟩ := (h).shapes
  obtain ⟨W, hW⟩ : ∃ W, W = w.alloc (.cells #[.slice a D.1.length c, .slice b D.2.length d] 42) := ⟨_, rfl⟩
  have Hb0 : Hid (Below w.heap.size w W) := by rw [hW]; exact (Below.refl _ _).alloc (Nat.le_refl _) _
  have c0 : W.cell? ⟨w.heap.size, 0, none⟩ = some (.slice a D.1.length c) := by rw [hW, World.cell?_alloc_mark]; rfl
  have c1 : W.cell? ⟨w.heap.size, 1, none⟩ = some (.slice b D.2.length d) := by rw [hW, World.cell?_alloc_mark]; rfl
  have K0 : Hid (W.heap[w.heap.size]? = some (.cells #[.slice a D.1.length c, .slice b D.2.length d] 42 (0, 0))) := by rw [hW]; exact blkNew _ _ rfl
  have Hz : Hid (W.heap.size = w.heap.size + 1) := by rw [hW]; simp [Hid]
  have H := Lib.hid ((h).stay (kpB Hb0.out)); clear h
  have HW := Lib.hid hW; clear hW
  have HU : Hid (∀ w' : World, Below W.heap.size W w' → ∀ s, s < D.1.length → w'.cell? ⟨gu, s, none⟩ = some (.bool (leadB D s))) := fun w' hb s hs => kpB (S := fun _ => True) hb _ _ trivial (kpB (S := fun _ => True) Hb0.out _ _ trivial (hu s hs))
  have HD := Lib.hid hD
  have hn40 : D.1.length ≤ 40 := hD.1.2
  have hn1 : 1 ≤ D.1.length := hD.1.1
  clear hD hu
  rw [HW.out] at c0 c1
  go_enter Try.func80, Try.ntmps80
  go_wp2_with (at_make; refine makeRow ezInt (by decide) rfl (.tmp 13) (.tmp 13) rfl D.1.length _ rfl rfl (by omega) ?_; rw [← HW.out]; intro w1 hr1 hb1 hz1)
  clear c0 c1
  obtain ⟨B1, hB1⟩ : ∃ B1, B1 = W.heap.size := ⟨_, rfl⟩
  rw [← hB1] at hr1
  rw [← hB1]
  have hWB : W.heap.size ≤ B1 := by rw [hB1]; exact Nat.le_refl _
  have hr0 : Hid (RowI w1 B1 (nl D.1.length (bs D 0))) := by
    have e : nl D.1.length (bs D 0) = List.replicate D.1.length 0 := by apply List.ext_getElem <;> simp [nl, bs]
    rw [e]; exact hr1
  clear hB1 hz1 hr1
  go_loopw [5, 6] (fun v i wr => ∃ (j g : Nat), j ≤ D.1.length + 1 ∧ i = .int .i64 j ∧ v = .slice (some ⟨g, 0, none⟩) D.1.length D.1.length ∧ W.heap.size ≤ g ∧ Below W.heap.size W wr ∧ Hid (RowI wr g (nl D.1.length (bs D j)))) (fun _ i _ => D.1.length + 1 - (intOf i).toNat)
  case atStart => exact ⟨0, B1, by omega, rfl, rfl, hWB, hb1, hr0⟩
  case round =>
    clear hb1 hr0
    obtain ⟨j, g, hj, rfl, rfl, hg, hb, hr⟩ := hrel
    by_cases hjl : j ≤ D.1.length
    · have hgl := hr.out.lt
      go_wp2_with (at_make; refine makeRow ezInt (by decide) rfl (.tmp 22) (.tmp 22) rfl D.1.length _ rfl rfl (by omega) ?_; intro w3 hr3 hb3 hz3)
      have hb4 := hb.trans (hb3.mono hb.size)
      have hr4 := Lib.hid (hr.out.stay hb3)
      obtain ⟨g2, hg2⟩ : ∃ g2, g2 = wr.heap.size := ⟨_, rfl⟩
      rw [← hg2] at hr3 hgl
      rw [← hg2]
      have hgg : g ≠ g2 := by omega
      have hWg2 : W.heap.size ≤ g2 := by rw [hg2]; exact hb.size
      clear hg2 hz3 hb3 hb hr
      go_loopw [8] (fun i wr => ∃ k : Nat, k ≤ D.1.length ∧ i = .int .i64 k ∧ Below W.heap.size W wr ∧ Hid (RowI wr g (nl D.1.length (bs D j))) ∧ Hid (RowI wr g2 (part D.1.length k (fun s => ((bs D (j + 1) s : Nat) : Int)) 0))) (fun i _ => D.1.length - (intOf i).toNat)
      case atStart => exact ⟨0, by omega, rfl, hb4, hr4, by rw [part_zero]; exact hr3⟩
      case round =>
        clear hr3 hr4 hb4
        obtain ⟨k, hk, rfl, hb, hr, hq⟩ := hrel
        by_cases hkl : k < D.1.length
        · go_wp2_with fail
          go_loopw [9] (fun i wr => ∃ c : Nat, c ≤ 3 ∧ i = .int .i64 c ∧ Below W.heap.size W wr ∧ Hid (RowI wr g (nl D.1.length (bs D j))) ∧ Hid (RowI wr g2 ((part D.1.length k (fun s => ((bs D (j + 1) s : Nat) : Int)) 0).set k ((bsC D (bs D j) k c : Nat) : Int)))) (fun i _ => 3 - (intOf i).toNat)
          case atStart => exact ⟨0, by omega, rfl, hb, hr, by
            have e : (part D.1.length k (fun s => ((bs D (j + 1) s : Nat) : Int)) 0).set k ((bsC D (bs D j) k 0 : Nat) : Int) = part D.1.length k (fun s => ((bs D (j + 1) s : Nat) : Int)) 0 := by
              apply List.ext_getElem
              · simp
              · intro i h1 h2
                rw [List.getElem_set]
                split
                · rename_i e; subst e; rw [part_get hkl, if_neg (Nat.lt_irrefl _)]; rfl
                · rfl
            rw [e]; exact hq⟩
          case round =>
            clear hb hr hq
            obtain ⟨t, ht, rfl, hb, hr, hq⟩ := hrel
            have u1 := HU.out wr hb k hkl
            have hkI : (k : Int) < (D.1.length : Int) := by omega
            by_cases htl : t < 3
            · have htI : (t : Int) < 3 := by omega
              obtain ⟨x, hx⟩ : ∃ x, x = leadB D k := ⟨_, rfl⟩
              rw [← hx] at u1
              cases x
              · have hq2 := Lib.hid hq.out
                rw [bsC_off D (bs D j) hx.symm, ← bsC_off D (bs D j) hx.symm 3] at hq2
                rw [bs_three, part_set (fun s => ((bs D (j + 1) s : Nat) : Int)) 0 hkl] at hq2
                clear hq hx
                go_wp2
                go_roundw
                case rel => exact ⟨k + 1, by omega, by go_num, hb, hr, hq2⟩
                case measure => simp [intOf]; omega
              · have k0 := blkBel hb K0.out
                obtain ⟨c0, c1, _, _⟩ := blk2 k0
                obtain ⟨bn, on, br, or_, cr, e1, hs1, hs2, hs3⟩ := (H.out.stay (kpB hb)).step HD.out hkl htl
                cases e1
                have u2 := HU.out wr hb _ hs3
                have hcg := hr.out.cell (i := dn D k t) (by rw [nl_len]; exact hs3)
                rw [nl_get _ _ hs3] at hcg
                have hcq := hq.out.cell (i := k) (by rw [List.length_set, part_len]; exact hkl)
                rw [List.getElem_set_self] at hcq
                have hfz := hq.out.fz k
                have hb1 := bs_le D j (dn D k t)
                have hb2 : bsC D (bs D j) k t ≤ j + 1 := bsC_le D _ k (fun c _ => by have := bs_le D j (dn D k c); omega) t (by omega)
                obtain ⟨y, hy⟩ : ∃ y, y = leadB D (dn D k t) := ⟨_, rfl⟩
                rw [← hy] at u2
                cases y
                · have hq2 := Lib.hid hq.out
                  rw [← bsC_no D (bs D j) hy.symm] at hq2
                  generalize dn D k t = z at *
                  have hzI : (z : Int) < (D.1.length : Int) := by omega
                  clear hq hx hy hcg hcq hb1 hb2
                  go_wp2
                  go_roundw
                  case rel => exact ⟨t + 1, by omega, by go_num, hb, hr, hq2⟩
                  case measure => simp [intOf]; omega
                · have hns := Lib.hid (bsC_yes D (bs D j) hx.symm hy.symm)
                  obtain ⟨a1, ha1⟩ : ∃ x, x = bsC D (bs D j) k t := ⟨_, rfl⟩
                  obtain ⟨a2, ha2⟩ : ∃ x, x = bs D j (dn D k t) := ⟨_, rfl⟩
                  obtain ⟨z, hz⟩ : ∃ z, z = dn D k t := ⟨_, rfl⟩
                  rw [← ha1] at hb2 hns hcq
                  rw [← ha2] at hb1 hns hcg
                  rw [← hz] at hcg hs2 hs3 u2
                  clear ha1 ha2 hz hx hy
                  have hzI : (z : Int) < (D.1.length : Int) := by omega
                  have hwx : IntKind.i64.wrap ((a2 : Int) + 1) = (a2 : Int) + 1 := IntWalk.i64_in _ (by omega)
                  go_wp2_with fail
                  go_still_tail 13, (by kernel_rfl)
                  change wpList _ _ _ _ _ wr.drew
                  have hq2 : RowI wr.drew g2 _ := hq.out
                  have hr2 : Hid (RowI wr.drew g (nl D.1.length (bs D j))) := hr.out
                  have hb2' : Below W.heap.size W wr.drew := hb.drew
                  have hcq2 : wr.drew.cell? ⟨g2, k, none⟩ = some (.int .i64 (a1 : Int)) := hcq
                  have hfz2 : wr.drew.frozen? ⟨g2, k, none⟩ = false := hfz
                  clear hq hr hb hcq hfz hcg hs1 hs2 c0 c1 k0
                  generalize wr.drew = w2 at *
                  have hmx : (if (a1 : Int) < (a2 : Int) + 1 then (a2 : Int) + 1 else (a1 : Int)) = ((max a1 (a2 + 1) : Nat) : Int) := by
                    split
                    · rw [Nat.max_eq_right (by omega)]; rfl
                    · rw [Nat.max_eq_left (by omega)]
                  rw [hmx]
                  clear hmx
                  rw [← hns.out]
                  obtain ⟨y2, hy2⟩ : ∃ x, x = bsC D (bs D j) k (t + 1) := ⟨_, rfl⟩
                  have hq3 := hq2.set k ((y2 : Nat) : Int)
                  rw [List.set_set] at hq3
                  rw [← hy2]
                  have Hq3 := Lib.hid hq3; clear hq3 hq2
                  have Hy2 := Lib.hid hy2; clear hy2
                  have Hr3 := Lib.hid (hr2.out.far (c := g2) (o := k) hgg (.int .i64 ((y2 : Nat) : Int)))
                  have hB3 : Below W.heap.size W (w2.setCell ⟨g2, k, none⟩ (.int .i64 ((y2 : Nat) : Int))) := hb2'.setCell hWg2 _
                  clear hr2 hb2' hns
                  go_wp2
                  go_roundw
                  case rel => exact ⟨t + 1, by omega, by go_num, hB3, Hr3, by rw [← Hy2.out]; exact Hq3⟩
                  case measure => simp [intOf]; omega
            · obtain rfl : t = 3 := by omega
              have hq2 := Lib.hid hq.out
              rw [bs_three, part_set (fun s => ((bs D (j + 1) s : Nat) : Int)) 0 hkl] at hq2
              clear hq
              go_wp2
              go_roundw
              case rel => exact ⟨k + 1, by omega, by go_num, hb, hr, hq2⟩
              case measure => simp [intOf]; omega
        · obtain rfl : k = D.1.length := by omega
          have hq2 : Hid (RowI wr g2 (nl D.1.length (bs D (j + 1)))) := by have := hq.out; rw [part_all] at this; exact this
          clear hq
          go_wp2
          go_roundw
          case rel => exact ⟨j + 1, g2, by omega, by go_num, rfl, hWg2, hb, hq2⟩
          case measure => simp [intOf]; omega
    · obtain rfl : j = D.1.length + 1 := by omega
      have hB := Hb0.out.trans (hb.mono Hb0.out.size)
      clear hb
      go_wp2
      go_ret
      exact RVn.mk hB ⟨g, rfl, hr.out⟩
set_option maxHeartbeats 2000000 in
theorem sLongestLength_c (vn ve : Value) (D : DfaD) (w : World) (h : DfaR S w vn ve D) : Calls Try.prog 33 #[.agg #[vn, ve]] w (RO w (.int .i64 (llV D))) := by
  obtain ⟨a, c, b, d, rfl, rfl, hn, hm⟩ := (h).shapes
  obtain ⟨W, hW⟩ : ∃ W, W = w.alloc (.cells #[.slice a D.1.length c, .slice b D.2.length d] 42) := ⟨_, rfl⟩
  have Hb0 : Hid (Below w.heap.size w W) := by rw [hW]; exact (Below.refl _ _).alloc (Nat.le_refl _) _
  have c0 : W.cell? ⟨w.heap.size, 0, none⟩ = some (.slice a D.1.length c) := by rw [hW, World.cell?_alloc_mark]; rfl
  have c1 : W.cell? ⟨w.heap.size, 1, none⟩ = some (.slice b D.2.length d) := by rw [hW, World.cell?_alloc_mark]; rfl
  have K0 : Hid (W.heap[w.heap.size]? = some (.cells #[.slice a D.1.length c, .slice b D.2.length d] 42 (0, 0))) := by rw [hW]; exact blkNew _ _ rfl
  have Hz : Hid (W.heap.size = w.heap.size + 1) := by rw [hW]; simp [Hid]
  have H := Lib.hid ((h).stay (kpB Hb0.out)); clear h
  have HW := Lib.hid hW; clear hW
  rw [HW.out] at c0 c1
  go_enter Try.func33, Try.ntmps33
  go_wp2_with fail
  clear c0 c1
  rw [← HW.out]
  refine (sDfaValid_c _ _ D W H.out).mono ?_
  rintro e w1 ⟨ok, rfl, hb1, hok⟩
  have hB := Hb0.out.trans (hb1.mono Hb0.out.size)
  obtain ⟨c0, c1, _, _⟩ := blk2 (blkBel hb1 K0.out)
  cases ok
  · have hno := hbF hok
    clear hok
    go_wp2
    go_ret
    rw [llV_neg hno]
    exact ⟨rfl, hB⟩
  · have hyes := Lib.hid (hbT hok)
    clear hok
    have Hll := Lib.hid (llV_pos hyes.out)
    have hck := canon_ok hyes.out
    have hLx := Lib.hid (Lng_eq (lng_ref (canon (lgD D)) hck))
    rw [canon_lg hyes.out, ← Hll.out] at hLx
    go_wp2_with fail
    refine (l10Small_c _ _ D w1 (H.out.stay (kpB hb1)) hyes.out).mono ?_
    rintro e w2 ⟨v1, v2, rfl, hb2, hd⟩
    obtain ⟨X, hX⟩ : ∃ X, X = canon (lgD D) := ⟨_, rfl⟩
    rw [← hX] at hd hck hLx
    have HX := Lib.hid hck
    have hx1 : 1 ≤ X.1.length := hck.1.1
    have hx40 : X.1.length ≤ 40 := hck.1.2
    have HD2 := Lib.hid hd.out.rd
    obtain ⟨a1, ca1, a2, ca2, rfl, rfl, _, _⟩ := HD2.out.shapes
    have HB2 := Lib.hid (hB.trans (hb2.mono hB.size))
    obtain ⟨W3, hW3⟩ : ∃ W3, W3 = w2.alloc (.cells #[.slice a1 X.1.length ca1, .slice a2 X.2.length ca2] 42) := ⟨_, rfl⟩
    have hb3 : Below w2.heap.size w2 W3 := by rw [hW3]; exact (Below.refl _ _).alloc (Nat.le_refl _) _
    have K3 : Hid (W3.heap[w2.heap.size]? = some (.cells #[.slice a1 X.1.length ca1, .slice a2 X.2.length ca2] 42 (0, 0))) := by rw [hW3]; exact blkNew _ _ rfl
    have HW3 := Lib.hid hW3
    clear hX hck hd hb1 hb2 hB hW3 c0 c1 HW H
    obtain ⟨c0, c1, _, _⟩ := blk2 K3.out
    rw [HW3.out] at c0 c1
    go_wp2_with fail
    clear c0 c1
    rw [← HW3.out]
    refine (l14Useful_c _ _ X W3 (HD2.out.stay (kpB hb3)) HX.out).mono ?_
    rintro e w4 ⟨vu, rfl, hb4, hu⟩
    obtain ⟨gu, cu, rfl, hgu, _, _⟩ := own_some hu.out (by omega)
    have hcu : X.1.length ≤ cu := Fl.cap (ownFl hu.out).fl
    have HU := Lib.hid (fun s (hs : s < X.1.length) => own_fB hu.out hs)
    have hb34 := hb3.trans (hb4.mono hb3.size)
    have HB4 := Lib.hid (HB2.out.trans (hb34.mono HB2.out.size))
    have H4 := Lib.hid (HD2.out.stay (kpB hb34))
    have K4 := Lib.hid (blkBel hb4 K3.out)
    obtain ⟨c0, c1, _, _⟩ := blk2 K4.out
    have u0 := HU.out 0 hx1
    have hx0 : (0 : Int) < (X.1.length : Int) := by omega
    obtain ⟨x, hx⟩ : ∃ x, x = leadB X 0 := ⟨_, rfl⟩
    rw [← hx] at u0 hLx
    clear hx hu hb3 hb4 HD2 K3 HW3
    cases x
    · simp only [if_false, Bool.false_eq_true] at hLx
      clear hb34
      go_wp2
      go_ret
      rw [← hLx.out]
      exact ⟨rfl, HB4.out⟩
    · simp only [if_true] at hLx
      go_wp2_with fail
      clear c0 c1 u0
      refine (l17Longest_c _ _ gu cu X w4 H4.out HX.out HU.out hcu).mono ?_
      rintro e w5 ⟨v, rfl, hb5, g, rfl, hr5⟩
      have d0 := hr5.cell (i := 0) (by rw [nl_len]; omega)
      rw [nl_get _ _ hx1] at d0
      have HB5 := Lib.hid (HB4.out.trans (hb5.mono HB4.out.size))
      obtain ⟨c0, c1, _, _⟩ := blk2 (blkBel hb5 K4.out)
      generalize bs X (X.1.length + 1) 0 = y at *
      clear hr5 hb5 HU H4 K4 hb34
      by_cases hny : (X.1.length : Int) ≤ (y : Int)
      · rw [if_pos hny] at hLx
        go_wp2
        go_ret
        rw [← hLx.out]
        exact ⟨rfl, HB5.out⟩
      · rw [if_neg hny] at hLx
        go_wp2
        go_ret
        rw [← hLx.out]
        exact ⟨rfl, HB5.out⟩
set_option maxHeartbeats 2000000 in
theorem LongestLength_c (vn ve : Value) (D : DfaD) (w : World) (h : DfaR S w vn ve D) : Calls Try.prog 34 #[.agg #[vn, ve]] w (RO w (.int .i64 (llV D))) := by
  obtain ⟨a, c, b, d, rfl, rfl, hn, hm⟩ := (h).shapes
  obtain ⟨W, hW⟩ : ∃ W, W = w.alloc (.cells #[.slice a D.1.length c, .slice b D.2.length d] 42) := ⟨_, rfl⟩
  have Hb0 : Hid (Below w.heap.size w W) := by rw [hW]; exact (Below.refl _ _).alloc (Nat.le_refl _) _
  have c0 : W.cell? ⟨w.heap.size, 0, none⟩ = some (.slice a D.1.length c) := by rw [hW, World.cell?_alloc_mark]; rfl
  have c1 : W.cell? ⟨w.heap.size, 1, none⟩ = some (.slice b D.2.length d) := by rw [hW, World.cell?_alloc_mark]; rfl
  have K0 : Hid (W.heap[w.heap.size]? = some (.cells #[.slice a D.1.length c, .slice b D.2.length d] 42 (0, 0))) := by rw [hW]; exact blkNew _ _ rfl
  have Hz : Hid (W.heap.size = w.heap.size + 1) := by rw [hW]; simp [Hid]
  have H := Lib.hid ((h).stay (kpB Hb0.out)); clear h
  have HW := Lib.hid hW; clear hW
  rw [HW.out] at c0 c1
  go_enter Try.func34, Try.ntmps34
  go_wp2_with fail
  clear c0 c1
  rw [← HW.out]
  refine (DfaValid_c _ _ D W H.out).mono ?_
  rintro e w1 ⟨ok, rfl, hb1, hok⟩
  have HB1 := Lib.hid (Hb0.out.trans (hb1.mono Hb0.out.size))
  have K1 := Lib.hid (blkBel hb1 K0.out)
  have H1 := Lib.hid (H.out.stay (kpB hb1))
  obtain ⟨c0, c1, _, _⟩ := blk2 K1.out
  clear hb1 K0 H HW
  cases ok
  · have hno := hbF hok
    clear hok
    go_wp2
    go_ret
    rw [llV_neg hno]
    exact ⟨rfl, HB1.out⟩
  · have HD := Lib.hid (hbT hok)
    clear hok
    have Hll := Lib.hid (llV_pos HD.out)
    have hn40 : D.1.length ≤ 40 := HD.out.1.2
    have hn1 : 1 ≤ D.1.length := HD.out.1.1
    have hn0I : (0 : Int) < (D.1.length : Int) := by omega
    have Hdl := Lib.hid HD.out.2.1
    have hl1 : w.heap.size < w1.heap.size := (Array.getElem?_eq_some_iff.1 K1.out).1
    go_wp2_with (at_make; refine makeRow ezBool (by decide) rfl (.tmp 16) (.tmp 16) rfl D.1.length _ rfl rfl (by omega) ?_; intro w2 hr2 hb2 hz2; have d0 := hr2.out.cell (i := 0) (by rw [List.length_replicate]; omega); rw [List.getElem_replicate] at d0; have f0 := hr2.out.fz 0; obtain ⟨c0', c1', _, _⟩ := blk2 (blkBel hb2 K1.out))
    clear c0 c1 c0' c1' d0 f0
    obtain ⟨B1, hB1⟩ : ∃ B1, B1 = w1.heap.size := ⟨_, rfl⟩
    rw [← hB1] at hr2
    rw [← hB1]
    have hWB : w1.heap.size ≤ B1 := by rw [hB1]; exact Nat.le_refl _
    have hr3 := Lib.hid (hr2.out.set 0 true)
    rw [bl_rep, bl_set, bl_congr (o' := rB D 0) (fun s => by
      by_cases e : s = 0
      · subst e; rw [upd_same]; rfl
      · rw [upd_ne _ _ e]; show false = (s == 0); simp [e])] at hr3
    have hb3 : Below w1.heap.size w1 (w2.setCell ⟨B1, 0, none⟩ (.bool true)) := hb2.setCell hWB _
    clear hr2 hb2 hz2 hB1
    generalize (w2.setCell ⟨B1, 0, none⟩ (.bool true)) = w3 at *
    go_loopw [3, 4, 25] (fun v3 v4 i wr => ∃ (m g : Nat) (r : Int), m ≤ 2 * D.1.length + 1 ∧ i = .int .i64 m ∧ v3 = .slice (some ⟨g, 0, none⟩) D.1.length D.1.length ∧ v4 = .int .i64 r ∧ w1.heap.size ≤ g ∧ Below w1.heap.size w1 wr ∧ Hid (RowB wr g (bl D.1.length (rB D m))) ∧ Hid (LgI D m 0 r)) (fun _ _ i _ => 2 * D.1.length + 1 - (intOf i).toNat)
    case atStart => exact ⟨0, B1, -2, by omega, rfl, rfl, rfl, hWB, hb3, hr3, LgI_start⟩
    case round =>
      clear hb3 hr3 hWB
      obtain ⟨m, g, r, hm, rfl, rfl, rfl, hg, hb, hr, hL⟩ := hrel
      obtain ⟨c0, c1, _, _⟩ := blk2 (blkBel hb K1.out)
      by_cases hml : m < 2 * D.1.length + 1
      · have hgl := hr.out.lt
        have hmI : (m : Int) < 2 * (D.1.length : Int) + 1 := by omega
        go_wp2_with (at_make; refine makeRow ezBool (by decide) rfl (.tmp 30) (.tmp 30) rfl D.1.length _ rfl rfl (by omega) ?_; intro w4 hr4 hb4 hz4)
        have hb5 := hb.trans (hb4.mono hb.size)
        have hr5 := Lib.hid (hr.out.stay hb4)
        obtain ⟨g2, hg2⟩ : ∃ g2, g2 = wr.heap.size := ⟨_, rfl⟩
        rw [← hg2] at hr4 hgl
        rw [← hg2]
        have hgg : g ≠ g2 := by omega
        have hWg2 : w1.heap.size ≤ g2 := by rw [hg2]; exact hb.size
        rw [bl_rep, ← bl_congr (fun t => nB_start D m t)] at hr4
        clear hg2 hz4 hb4 hb hr c0 c1
        go_loopw [4, 34] (fun v4 i wr => ∃ (k : Nat) (r : Int), k ≤ D.1.length ∧ i = .int .i64 k ∧ v4 = .int .i64 r ∧ Below w1.heap.size w1 wr ∧ Hid (RowB wr g (bl D.1.length (rB D m))) ∧ Hid (RowB wr g2 (bl D.1.length (nB D m k 0))) ∧ Hid (LgI D m k r)) (fun _ i _ => D.1.length - (intOf i).toNat)
        case atStart => exact ⟨0, r, by omega, rfl, rfl, hb5, hr5, hr4, hL⟩
        case round =>
          clear hr4 hr5 hb5 hL
          obtain ⟨k, r, hk, rfl, rfl, hb, hr, hq, hL⟩ := hrel
          by_cases hkl : k < D.1.length
          · obtain ⟨c0, c1, _, _⟩ := blk2 (blkBel hb K1.out)
            have d1 := hr.out.cell (i := k) (by rw [bl_len]; exact hkl)
            rw [bl_get _ _ hkl] at d1
            have hkI : (k : Int) < (D.1.length : Int) := by omega
            obtain ⟨x, hx⟩ : ∃ x, x = rB D m k := ⟨_, rfl⟩
            rw [← hx] at d1
            cases x
            · have hq2 := Lib.hid hq.out
              rw [bl_congr (fun t => nB_skip D hx.symm t)] at hq2
              have hL2 := Lib.hid (LgI_skip hL.out (.inl hx.symm))
              clear hq hL hx
              go_wp2
              go_roundw
              case rel => exact ⟨k + 1, r, by omega, by go_num, rfl, hb, hr, hq2, hL2⟩
              case measure => simp [intOf]; omega
            · obtain ⟨be, oe, e1, he⟩ := (H1.out.stay (kpB hb)).mark HD.out hkl
              cases e1
              obtain ⟨bn, on, br, or_, cr, e1, hs1', _, hs2'⟩ := H1.out.row HD.out hkl
              cases e1
              have hs1 := kpB (S := fun _ => True) hb _ _ trivial hs1'
              have Hs2 := Lib.hid hs2'
              have hlt2 : k < D.2.length := by rw [Hdl.out]; exact hkl
              have hk2I : (k : Int) < (D.2.length : Int) := by omega
              have HX := Lib.hid hx.symm
              clear hx hs1' hs2'
              obtain ⟨y, hy⟩ : ∃ y, y = de D k := ⟨_, rfl⟩
              rw [← hy] at he
              have hL2 : ∃ r2 : Int, Hid (LgI D m (k + 1) r2) ∧ Hid (y = true → r2 = (m : Int)) ∧ Hid (y = false → r2 = r) := by
                cases y
                · exact ⟨r, LgI_skip hL.out (.inr hy.symm), nofun, fun _ => rfl⟩
                · exact ⟨m, LgI_hit HD.out hkl HX.out hy.symm, fun _ => rfl, nofun⟩
              obtain ⟨r2, HL2, hra, hrb⟩ := hL2
              clear hy hL
              cases y
              all_goals
                first
                  | (have e := hra.out rfl; subst e)
                  | (have e := hrb.out rfl; subst e)
                clear hra hrb
                go_wp2_with fail
                clear c0 c1 d1 he hs1
                go_loopw [53] (fun i wr => ∃ c : Nat, c ≤ 3 ∧ i = .int .i64 c ∧ Below w1.heap.size w1 wr ∧ Hid (RowB wr g (bl D.1.length (rB D m))) ∧ Hid (RowB wr g2 (bl D.1.length (nB D m k c)))) (fun i _ => 3 - (intOf i).toNat)
                case atStart => exact ⟨0, by omega, rfl, hb, hr, hq⟩
                case round =>
                  clear hb hr hq
                  obtain ⟨c, hc, rfl, hb, hr, hq⟩ := hrel
                  by_cases hc3 : c < 3
                  · have htn := dn_lt HD.out hkl hc3
                    have d0 := kpB (S := fun _ => True) hb _ _ trivial (Hs2.out c hc3)
                    have d2 := hq.out.cell (i := dn D k c) (by rw [bl_len]; exact htn)
                    rw [bl_get _ _ htn] at d2
                    generalize nB D m k c (dn D k c) = old at d2
                    have fz := hq.out.fz (dn D k c)
                    have hq2 := Lib.hid (hq.out.set (dn D k c) true)
                    rw [bl_set, bl_congr (fun t => nB_next D HX.out t)] at hq2
                    obtain ⟨t, ht⟩ : ∃ t, t = dn D k c := ⟨_, rfl⟩
                    rw [← ht] at d0 fz hq2 htn d2
                    have hr2 := Lib.hid (hr.out.far (c := g2) (o := t) hgg (.bool true))
                    have hb2 : Below w1.heap.size w1 (wr.setCell ⟨g2, t, none⟩ (.bool true)) := hb.setCell hWg2 _
                    have htI : (t : Int) < (D.1.length : Int) := by omega
                    have hcI : (c : Int) < 3 := by omega
                    clear ht hq hr hb
                    go_wp2
                    go_roundw
                    case rel => exact ⟨c + 1, by omega, by go_num, hb2, hr2, hq2⟩
                    case measure => simp [intOf]; omega
                  · obtain rfl : c = 3 := by omega
                    have hq2 := Lib.hid hq.out
                    rw [bl_congr (fun t => nB_row D t)] at hq2
                    clear hq
                    go_wp2
                    go_roundw
                    case rel => exact ⟨k + 1, _, by omega, by go_num, rfl, hb, hr, hq2, HL2⟩
                    case measure => simp [intOf]; omega
          · obtain rfl : k = D.1.length := by omega
            have hnk : ¬ ((D.1.length : Int) < (D.1.length : Int)) := by omega
            have hq2 := Lib.hid hq.out
            rw [bl_congr (fun t => nB_end D t)] at hq2
            have hL2 := Lib.hid (LgI_round HD.out hL.out)
            clear hq hL
            go_wp2
            go_roundw
            case rel => exact ⟨m + 1, g2, r, by omega, by go_num, rfl, rfl, hWg2, hb, hq2, hL2⟩
            case measure => simp [intOf]; omega
      · obtain rfl : m = 2 * D.1.length + 1 := by omega
        have hnm : ¬ (((2 * D.1.length + 1 : Nat) : Int) < 2 * (D.1.length : Int) + 1) := by omega
        have hfin := Lib.hid (LgI_end HD.out hL.out)
        have hle := LgI_le hL.out
        have hBf := HB1.out.trans (hb.mono HB1.out.size)
        rw [← Hll.out] at hfin
        clear hL hr hb
        by_cases hny : (D.1.length : Int) ≤ r
        · rw [if_pos hny] at hfin
          go_wp2
          go_ret
          rw [← hfin.out]
          exact ⟨rfl, hBf⟩
        · rw [if_neg hny] at hfin
          go_wp2
          go_ret
          rw [← hfin.out]
          exact ⟨rfl, hBf⟩
end Go.Proofs.Ytofamhgkiipagaa
