/- Trimming: the reference's. -/
import Derived.Test.YtofamhgkiipagaaOrd
import Derived.Test.YtofamhgkiipagaaBld
import Derived.Deep.RegionHeld3
namespace Go.Proofs.Ytofamhgkiipagaa
open Go.RowKit
set_option maxRecDepth 100000
variable {S T : Nat → Prop}
/-- The automaton of the states that can be reached. -/
def trimD (D : DfaD) : DfaD := autD (dn D) (de D) (rnd (dn D) 0 D.1.length)
/-- One row of it. -/
def rowA (D : DfaD) (M : List Nat) (s c : Nat) : Int := ((M.idxOf (dn D s c) : Nat) : Int)
def rowL (D : DfaD) (M : List Nat) (s m : Nat) : List Int := (List.range m).map (rowA D M s)
theorem rowL_succ (D : DfaD) (M : List Nat) (s m : Nat) : rowL D M s (m + 1) = rowL D M s m ++ [rowA D M s m] := by simp [rowL, List.range_succ]
theorem rowL_len (D : DfaD) (M : List Nat) (s m : Nat) : (rowL D M s m).length = m := by simp [rowL]
theorem trim_rows (D : DfaD) (M : List Nat) : autD (dn D) (de D) M = (M.map fun s => rowL D M s 3, M.map (de D)) := rfl
theorem idx_le : ∀ {M : List Nat} {j : Nat} (h : j < M.length), M.idxOf M[j] ≤ j
  | a :: M, 0, h => by simp
  | a :: M, j + 1, h => by
    have := idx_le (M := M) (j := j) (by simpa using h)
    rw [List.idxOf_cons, List.getElem_cons_succ]
    cases a == M[j]'(by simpa using h) <;> simp [cond] <;> omega
theorem idx_least {M : List Nat} {t : Nat} (h : t ∈ M) : ∃ hk : M.idxOf t < (M.map fun s : Nat => (s : Int)).length, (M.map fun s : Nat => (s : Int))[M.idxOf t] = (t : Int) ∧ ∀ j (hj : j < M.idxOf t), (M.map fun s : Nat => (s : Int))[j]'(by omega) ≠ (t : Int) := by
  have h1 : M.idxOf t < M.length := List.idxOf_lt_length_of_mem h
  refine ⟨by simpa using h1, by simp [List.getElem_idxOf], fun j hj he => ?_⟩
  simp only [List.getElem_map] at he
  have he' : M[j]'(by omega) = t := by omega
  have := idx_le (M := M) (j := j) (by omega)
  rw [he'] at this
  omega
theorem trim_eq {D : DfaD} {k : Nat} (h : (rnd (dn D) 0 k).length = k) (hk : k ≤ D.1.length) : trimD D = autD (dn D) (de D) (rnd (dn D) 0 k) := by
  unfold trimD
  rw [rnd_done (dn D) (Nat.le_of_eq h) hk]
set_option maxHeartbeats 4000000 in
theorem DfaTrim_c (vn ve : Value) (D : DfaD) (w : World) (h : DfaR S w vn ve D) : Calls Try.prog 111 #[.agg #[vn, ve]] w (RD (orNo (okD D) (trimD D)) w) := by
  obtain ⟨a, ca, b, d, rfl, rfl, hn, hm⟩ := (h).shapes
  obtain ⟨W, hW⟩ : ∃ W, W = (w.alloc (.cells #[.slice a D.1.length ca, .slice b D.2.length d] 42)).alloc (.cells #[.slice none 0 0, .slice none 0 0] 42) := ⟨_, rfl⟩
  have Hb0 : Hid (Below w.heap.size w W) := by rw [hW]; exact ((Below.refl _ _).alloc (Nat.le_refl _) _).alloc (by simp) _
  have K0 : Hid (W.heap[w.heap.size]? = some (.cells #[.slice a D.1.length ca, .slice b D.2.length d] 42 (0, 0))) := by rw [hW]; exact blkOld (blkNew _ _ rfl)
  have K1 : Hid (W.heap[w.heap.size + 1]? = some (.cells #[.slice none 0 0, .slice none 0 0] 42 (0, 0))) := by rw [hW]; exact blkNew _ _ (by simp)
  have Hz : Hid (W.heap.size = w.heap.size + 2) := by rw [hW]; simp [Hid]
  have H := Lib.hid ((h).stay (kpB Hb0.out)); clear h
  have HW := Lib.hid hW; clear hW
  obtain ⟨c0, c1, _, _⟩ := blk2 K0.out
  rw [HW.out] at c0 c1
  go_enter Try.func111, Try.ntmps111
  go_wp2_with fail
  rw [← HW.out] at c0 c1 ⊢
  clear c0 c1
  refine (sDfaValid_c _ _ D W H.out).mono ?_
  rintro e w1 ⟨ok, rfl, hb1, hok⟩
  have K0' := Lib.hid (blkBel hb1 K0.out)
  have K1' := Lib.hid (blkBel hb1 K1.out)
  have H' := Lib.hid (H.out.stay (kpB hb1))
  have hbw := Lib.hid (Hb0.out.trans (hb1.mono Hb0.out.size))
  have hz1 : w.heap.size + 2 ≤ w1.heap.size := by have := hb1.size; have := Hz.out; omega
  obtain ⟨c0, c1, _, _⟩ := blk2 K0'.out
  obtain ⟨z0, z1, y0, y1⟩ := blk2 K1'.out
  clear hb1 H K0 K1 Hz Hb0 HW
  cases ok
  · have hno := Lib.hid (hbF hok)
    clear hok
    go_wp2
    have f0 := cell_setOther (o := 1) (u := .slice none 0 0) (cell_setSame (u := .slice none 0 0) z0) (by omega)
    have f1 := cell_setSame (u := .slice none 0 0) (cell_setOther (o := 0) (u := .slice none 0 0) z1 (by omega))
    refine bodyPost_ret (v := .agg #[.slice none 0 0, .slice none 0 0]) (by simp [results, Try.results111, go_sem, f0, f1]) rfl ?_
    rw [orNo_neg hno.out]
    exact RD.nil hbw.out hz1
  · have hyes := Lib.hid (hbT hok)
    have hn40 : D.1.length ≤ 40 := hyes.out.1.2
    have hn1 : 1 ≤ D.1.length := hyes.out.1.1
    clear hok
    go_wp2_with fail
    refine (l7Order_c _ _ D w1 H'.out hyes.out).mono ?_
    rintro e w2 ⟨vo, rfl, hb2, hk⟩
    obtain ⟨K, hK1, hK2, hvo⟩ := hk.out
    have hK0 : 0 < K := by rw [← hK1]; exact rnd_pos _ _ _
    have Htr := Lib.hid (trim_eq hK1 hK2)
    have Hcl := Lib.hid (rnd_closed (dn D) (Nat.le_of_eq hK1))
    have HPM := Lib.hid (rnd_all (dn D) (P := (· < D.1.length)) (s0 := 0) (by omega) (dn_lt3 hyes.out) K)
    obtain ⟨M, hM⟩ : ∃ M, M = rnd (dn D) 0 K := ⟨_, rfl⟩
    rw [← hM] at hK1 hvo Htr Hcl HPM
    clear hM hk
    have K0 := Lib.hid (blkBel hb2 K0'.out)
    have K1 := Lib.hid (blkBel hb2 K1'.out)
    have HD2 := Lib.hid (H'.out.stay (kpB hb2))
    have hbw2 := Lib.hid (hbw.out.trans (hb2.mono hbw.out.size))
    have hz2 : w.heap.size + 2 ≤ w2.heap.size := by have := hb2.size; omega
    clear H' K0' K1' hbw hb2 c0 c1 z0 z1 y0 y1 hz1
    obtain ⟨ao, capo, rfl, _⟩ := (ownFl hvo).shape
    have HO := Lib.hid hvo
    clear hvo
    obtain ⟨W4, hW4⟩ : ∃ W4, W4 = w2.alloc (.cells #[.slice none 0 0, .slice none 0 0] 42) := ⟨_, rfl⟩
    have HX : Hid (BS w2.heap.size w2 w2.heap.size [] [] (.slice none 0 0) (.slice none 0 0) W4) := by
      rw [hW4]
      exact ⟨(Below.refl _ _).alloc (Nat.le_refl _) _, by simp, Nat.le_refl _, blkNew _ _ rfl, World.ownsRow_nil _ _ _ _, World.ownsRow_nil _ _ _ _, nofun, List.nodup_nil⟩
    have HW4 := Lib.hid hW4
    clear hW4
    go_wp2_with fail
    rw [← HW4.out]
    have hMl : M.length ≤ 40 := by omega
    have HI : Hid (∀ w', Below w2.heap.size w2 w' → Ints (w1.heap.size ≤ ·) w' (.slice ao K capo) (M.map fun s : Nat => (s : Int))) := fun w' hb' => by
      have := (ownFl (ownStay HO.out hb')).fl
      unfold Ints
      rw [List.length_map, hK1, List.map_map]
      exact this
    clear HW4
    go_loopw [5] (fun i wr => ∃ (k : Nat) (rs : List (Value × List Int)) (vN vE : Value), k ≤ K ∧ i = .int .i64 k ∧ Hid (rs.map (·.2) = (M.take k).map fun s => rowL D M s 3) ∧
      Hid (BS w2.heap.size w2 w2.heap.size rs ((M.take k).map (de D)) vN vE wr)) (fun i _ => K - (intOf i).toNat)
    case atStart => exact ⟨0, [], _, _, by omega, rfl, rfl, HX⟩
    case round =>
      clear HX
      obtain ⟨k, rs, vN, vE, hk, rfl, Hrs, HX⟩ := hrel
      have Hrl : Hid (rs.length = k) := by have := congrArg List.length Hrs.out; unfold Hid; simp at this; omega
      by_cases hlt : k < K
      · obtain ⟨s, hs⟩ : ∃ s, s = M[k] := ⟨_, rfl⟩
        have Htk : Hid (M.take (k + 1) = M.take k ++ [s]) := by rw [hs]; exact List.take_succ_eq_append_getElem (by omega)
        have hsM : s ∈ M := by rw [hs]; exact List.getElem_mem _
        have Hs : Hid (M[k]? = some s) := by rw [hs]; exact List.getElem?_eq_getElem _
        have hsn : s < D.1.length := HPM.out s hsM
        have HcM := Lib.hid (Hcl.out s hsM)
        clear hs
        go_wp2_with fail
        obtain ⟨B6, hB6⟩ : ∃ B6, B6 = wr.heap.size := ⟨_, rfl⟩
        have ho6 : Hid ((wr.alloc (.cells #[] 3)).ownsRow w2.heap.size 3 1 (.slice (some ⟨B6, 0, none⟩) 0 0) 0 []) := by rw [hB6]; exact ownLit [] HX.out.size (by omega) rfl
        have HX6 := Lib.hid (HX.out.stay ((Below.refl wr.heap.size wr).alloc (Nat.le_refl _) (.cells #[] 3)))
        have Hne6 : Hid (∀ p ∈ rs, p.1.ownBlock ≠ Value.ownBlock (.slice (some ⟨B6, 0, none⟩) 0 0)) := fun p hp he => by
          obtain ⟨g, e1, hg⟩ := HX.out.lt hp
          rw [e1, hB6] at he
          simp [Value.ownBlock] at he
          omega
        rw [← hB6]
        clear hB6 HX
        generalize wr.alloc (.cells #[] 3) = w6 at *
        go_loopw [6, 7] (fun m i wr => ∃ c : Nat, c ≤ 3 ∧ i = .int .i64 c ∧ Hid (wr.ownsRow w2.heap.size 3 1 m c ((rowL D M s c).map (.int .i64 ·))) ∧ Hid (∀ p ∈ rs, p.1.ownBlock ≠ m.ownBlock) ∧
          Hid (BS w2.heap.size w2 w2.heap.size rs ((M.take k).map (de D)) vN vE wr)) (fun _ i _ => 3 - (intOf i).toNat)
        case atStart => exact ⟨0, by omega, rfl, ho6, Hne6, HX6⟩
        case round =>
          clear ho6 Hne6 HX6
          obtain ⟨c, hc, rfl, ho, hne, HX⟩ := hrel
          by_cases hc3 : c < 3
          · obtain ⟨bn, on, br, or_, cr, e1, hs1, hs2, hs3⟩ := HD2.out.step hyes.out hsn hc3
            cases e1
            have htM : dn D s c ∈ M := by
              have : c = 0 ∨ c = 1 ∨ c = 2 := by omega
              rcases this with rfl | rfl | rfl
              · exact HcM.out.1
              · exact HcM.out.2.1
              · exact HcM.out.2.2
            have Hrow : Hid (rowL D M s (c + 1) = rowL D M s c ++ [((M.idxOf (dn D s c) : Nat) : Int)]) := rowL_succ D M s c
            obtain ⟨hi1, hi2, hi3⟩ := idx_least htM
            obtain ⟨bo, oo, e1, hcell⟩ := Fl.at (ownFl HO.out).fl (i := k) (by simp; omega)
            cases e1
            have hst : (M.map fun s : Nat => Value.int .i64 s)[k]'(by simp; omega) = .int .i64 ((s : Nat) : Int) := by
              have := Hs.out
              rw [List.getElem?_eq_getElem (by omega)] at this
              injection this with this
              rw [List.getElem_map, this]
            rw [hst] at hcell
            clear hst
            have HCall : Hid (∀ w', Below w2.heap.size w2 w' → Calls Try.prog 102 #[.slice (some ⟨bo, oo, none⟩) K capo, .int .i64 ((dn D s c : Nat) : Int)] w' (fun e w'' => e = .returned (.int .i64 ((M.idxOf (dn D s c) : Nat) : Int)) ∧ w'' = w')) := fun w' hb' =>
              l7Name_c _ _ _ _ w' (HI.out w' hb') hi1 hi2 hi3
            obtain ⟨t, ht⟩ : ∃ t, t = dn D s c := ⟨_, rfl⟩
            rw [← ht] at hs2 hs3 Hrow HCall
            clear ht hi1 hi2 hi3 htM
            generalize M.idxOf t = y at *
            have HS : Hid (∀ w', Below w2.heap.size w2 w' → w'.cell? ⟨w.heap.size, 0, none⟩ = some (.slice (some ⟨bn, on, none⟩) D.1.length ca) ∧ w'.cell? ⟨bo, oo + k, none⟩ = some (.int .i64 ((s : Nat) : Int)) ∧ w'.cell? ⟨bn, on + s, none⟩ = some (.slice (some ⟨br, or_, none⟩) 3 cr) ∧ w'.cell? ⟨br, or_ + c, none⟩ = some (.int .i64 ((t : Nat) : Int))) := fun w' hb' => by
              have hk := kpB (S := fun _ => True) hb'
              exact ⟨hk _ _ trivial (blk2 K0.out).1, hk _ _ trivial hcell, hk _ _ trivial hs1, hk _ _ trivial hs2⟩
            clear hs1 hs2 hcell
            have hkI : (k : Int) < (K : Int) := by omega
            have hsI : (s : Int) < (D.1.length : Int) := by omega
            have hcI : (c : Int) < 3 := by omega
            have bD : Below w2.heap.size w2 wr.drew := HX.out.drew.bel
            have bA : ∀ v, Below w2.heap.size w2 (wr.drew.alloc v) := fun v => HX.out.drew.bel.alloc HX.out.drew.size v
            have hzr : w2.heap.size ≤ wr.heap.size := HX.out.size
            have hoD : Hid (wr.drew.ownsRow _ _ _ _ _ _) := ho.out
            have HXD := Lib.hid HX.out.drew
            obtain ⟨am, capm, rfl, _⟩ := (ownFl ho.out).shape
            go_wp2_with fail
            go_region_held3 (fun w' => w'.cell? ⟨w.heap.size, 0, none⟩ = some (.slice (some ⟨bn, on, none⟩) D.1.length ca) ∧ w'.cell? ⟨bo, oo + k, none⟩ = some (.int .i64 ((s : Nat) : Int)) ∧ w'.cell? ⟨bn, on + s, none⟩ = some (.slice (some ⟨br, or_, none⟩) 3 cr) ∧ w'.cell? ⟨br, or_ + c, none⟩ = some (.int .i64 ((t : Nat) : Int)))
              (first | (exact HS.out _ bD) | (exact HS.out _ (bA _)) | (exact HS.out _ b7))
              (first | (go_at_call 102; refine (HCall.out _ bD).mono ?_; rintro e w' ⟨rfl, rfl⟩)
                     | (refine stepAppAt elInt (by decide) rfl (.tmp 26) (.tmp 40) rfl w2.heap.size _ _ _ [.int .i64 ((y : Nat) : Int)] _ wr.heap.size rfl rfl (hoD.out.alloc _) (by exact blkNew _ _ rfl) rfl (by simp [Value.oneCell']) (by omega) (by simp; omega) ?_
                        intro g7 cap7 w7 ho7 hg7 hat7
                        have hg8 : wr.drew.grownBy w7 _ := grownTrans (grownBel ((Below.refl _ _).alloc (Nat.le_refl _) _)) hg7
                        have HX7 := Lib.hid (HXD.out.grow hoD.out hg8 hne.out)
                        have b7 := HX7.out.bel))
            have hne8 : Hid (∀ p ∈ rs, p.1.ownBlock ≠ Value.ownBlock (.slice (some ⟨g7, 0, none⟩) (c + 1) cap7)) := fun p hp he => by
              rcases hat7.out with h | h
              · exact hne.out p hp (he.trans h.symm)
              · obtain ⟨g, e1, hg⟩ := HX.out.lt hp
                rw [e1] at he
                simp [Value.ownBlock] at he
                have : (wr.drew.alloc (.cells #[.int .i64 ((y : Nat) : Int)] 3)).heap.size = wr.heap.size + 1 := World.size_alloc _ _
                simp at h
                omega
            clear b7 hat7 hg8 hg7 bA bD hoD HXD HS HCall ho hne HX
            go_wp2
            go_roundw
            case rel => exact ⟨c + 1, by omega, by go_num, by rw [Hrow.out, List.map_append]; exact ho7.out, hne8, HX7⟩
            case measure => simp [intOf]; omega
          · obtain rfl : c = 3 := by omega
            obtain ⟨am, capm, rfl, _⟩ := (ownFl ho.out).shape
            obtain ⟨c0, c1, f0, f1⟩ := blk2 HX.out.b4
            have hzr : w2.heap.size ≤ wr.heap.size := HX.out.size
            have hr3 : OwI wr w2.heap.size (.slice am 3 capm) (rowL D M s 3) := by
              have := ho.out
              unfold OwI
              rw [rowL_len]
              exact this
            go_wp2_with (
              refine appAt elInts (by decide) rfl (.tmp 43) (.tmp 45) rfl w2.heap.size _ _ _ [.slice am 3 capm] wr rfl rfl rfl HX.out.nx rfl (by simp [Value.oneCell']) (by have := Hrl.out; omega) HX.out.size ?_
              intro v4 w4 ho4 hg4 hat4
              obtain ⟨a4, cap4, rfl, _⟩ := (ownFl ho4.out).shape
              have HXn := Lib.hid (HX.out.row (r := rowL D M s 3) (by rw [rowL_len]; omega) hr3 hne.out hg4 ho4.out)
              have b4 := blkGrow hg4 HX.out.b4 (own_cells' HX.out.nx HX.out.b4 (by decide))
              obtain ⟨c0', c1', f0', f1'⟩ := blk2 b4
              clear b4 c0 c1 f0 f1 hat4 ho4)
            generalize w4.setCell ⟨w2.heap.size, 0, none⟩ (.slice a4 (rs.length + 1) cap4) = w5 at *
            clear hg4 HX c0' c1' f0' f1' ho hr3 hne
            have Hrs2 : Hid ((rs ++ [(Value.slice am 3 capm, rowL D M s 3)]).map (·.2) = (M.take (k + 1)).map fun s => rowL D M s 3) := by
              rw [Htk.out, List.map_append, List.map_append, Hrs.out]; rfl
            have Hes : Hid ((M.take k).map (de D) ++ [de D s] = (M.take (k + 1)).map (de D)) := by rw [Htk.out, List.map_append]; rfl
            have Hml : Hid (((M.take k).map (de D)).length = k) := by unfold Hid; simp; omega
            obtain ⟨es, hes⟩ : ∃ es, es = (M.take k).map (de D) := ⟨_, rfl⟩
            rw [← hes] at HXn Hml Hes
            clear hes
            obtain ⟨aE, capE, rfl, _⟩ := (ownFl HXn.out.en).shape
            obtain ⟨c0, c1, f0, f1⟩ := blk2 HXn.out.b4
            obtain ⟨be, oe, e1, he⟩ := HD2.out.mark hyes.out hsn
            cases e1
            obtain ⟨bo, oo, e1, hcell⟩ := Fl.at (ownFl HO.out).fl (i := k) (by simp; omega)
            cases e1
            have hst : (M.map fun s : Nat => Value.int .i64 s)[k]'(by simp; omega) = .int .i64 ((s : Nat) : Int) := by
              have := Hs.out
              rw [List.getElem?_eq_getElem (by omega)] at this
              injection this with this
              rw [List.getElem_map, this]
            rw [hst] at hcell
            clear hst
            have hkI : (k : Int) < (K : Int) := by omega
            have hsI : (s : Int) < (D.2.length : Int) := by rw [hyes.out.2.1]; omega
            have hsl : s < D.2.length := by rw [hyes.out.2.1]; omega
            generalize de D s = x at *
            have hb5 : Below w2.heap.size w2 w5 := HXn.out.bel
            have e1D : w5.drew.cell? ⟨w.heap.size, 1, none⟩ = some (.slice (some ⟨be, oe, none⟩) D.2.length d) := kpB (S := fun _ => True) hb5 _ _ trivial (blk2 K0.out).2.1
            have e2D : w5.drew.cell? ⟨bo, oo + k, none⟩ = some (.int .i64 ((s : Nat) : Int)) := kpB (S := fun _ => True) hb5 _ _ trivial hcell
            have e3D : w5.drew.cell? ⟨be, oe + s, none⟩ = some (.bool x) := kpB (S := fun _ => True) hb5 _ _ trivial he
            have hz5 : w2.heap.size ≤ w5.heap.size := HXn.out.size
            have HXD := Lib.hid HXn.out.drew
            have c1D : w5.drew.cell? ⟨w2.heap.size, 1, none⟩ = some (.slice aE es.length capE) := c1
            have c1A : (w5.drew.alloc (.cells #[.bool x] 4)).cell? ⟨w2.heap.size, 1, none⟩ = some (.slice aE es.length capE) := kpAlloc (S := fun _ => True) _ _ trivial c1D
            have c1B : (w5.alloc (.cells #[.bool x] 4)).drew.cell? ⟨w2.heap.size, 1, none⟩ = some (.slice aE es.length capE) := c1A
            clear he hcell
            go_region_law
              (refine stepAppAt elBool (by decide) rfl (.tmp 49) (.tmp 58) rfl w2.heap.size _ _ _ [.bool x] _ w5.heap.size rfl rfl (HXD.out.en.alloc _) (by exact blkNew _ _ rfl) rfl (by simp [Value.oneCell']) (by have := Hml.out; omega) (by simp; omega) ?_
               intro g7 cap7 w7 ho7 hg7 hat7
               have hg8 : w5.drew.grownBy w7 _ := grownTrans (grownBel ((Below.refl _ _).alloc (Nat.le_refl _) _)) hg7
               have HX7 := Lib.hid (HXD.out.mark hg8 ho7.out)
               have b4' := blkGrow hg8 HXD.out.b4 (own_cells' HXD.out.en HXD.out.b4 (by decide))
               obtain ⟨c0', c1', f0', f1'⟩ := blk2 b4'
               clear b4')
            all_goals (
              rw [Hes.out] at HX7
              clear c1D c1A c1B e1D e2D e3D HXD HXn hg8 hat7 hg7 ho7 c0' c1' f0' f1' c0 c1 f0 f1
              go_wp2
              go_roundw
              case rel => exact ⟨k + 1, _, _, _, by omega, by go_num, Hrs2, HX7⟩
              case measure => simp [intOf]; omega)
      · obtain rfl : k = K := by omega
        have htake : M.take k = M := List.take_of_length_le (by omega)
        rw [htake] at Hrs HX
        have hd := HX.out.dfa (by have := Hrl.out; omega) (by simp; omega)
        rw [Hrs.out, ← trim_rows, ← Htr.out] at hd
        obtain ⟨c0, c1, _, _⟩ := blk2 HX.out.b4
        have hb5 := HX.out.bel
        have hsz := HX.out.size
        obtain ⟨z0, z1, y0, y1⟩ := blk2 (blkBel hb5 K1.out)
        have hbw5 := hbw2.out.trans (hb5.mono hbw2.out.size)
        obtain ⟨aN, capN, bN, capN', rfl, rfl, _, _⟩ := hd.rd.shapes
        have HDf := Lib.hid hd
        have hkk : ¬ ((k : Int) < (k : Int)) := by omega
        clear hd HX Hrl htake Hrs hlt hk
        generalize trimD D = C at *
        go_wp2
        have f0 := cell_setOther (o := 1) (u := .slice bN C.2.length capN') (cell_setSame (u := .slice aN C.1.length capN) z0) (by omega)
        have f1 := cell_setSame (u := .slice bN C.2.length capN') (cell_setOther (o := 0) (u := .slice aN C.1.length capN) z1 (by omega))
        refine bodyPost_ret (v := .agg #[.slice aN C.1.length capN, .slice bN C.2.length capN']) (by simp [results, Try.results111, go_sem, f0, f1]) rfl ?_
        rw [orNo_pos hyes.out]
        exact RD.fin hbw5 (by omega) (HDf.out.mono (fun b hb => ⟨⟨by omega, hb.1.2⟩, by omega⟩))
end Go.Proofs.Ytofamhgkiipagaa
