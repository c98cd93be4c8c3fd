/- An automaton as one with choices: the reference's answer. -/
import Derived.Deep.AppendLies
import Derived.Deep.RegionLaw
import Derived.Deep.RegionHeld3
import Derived.BigRegion
import Derived.Deep.DeepCutAuto
import Derived.Test.YtcbhfopabgiiiaaGD
import Derived.Test.YtcbhfopabgiiiaaGB
set_option linter.unusedSimpArgs false
set_option linter.unusedVariables false
set_option linter.unusedSectionVars false
namespace Go.Proofs.Ytcbhfopabgiiiaa
open Go.RowKit
set_option maxRecDepth 100000
variable {S T : Nat → Prop}
/-- The places of the marks. -/
def enB (m : List Bool) (k : Nat) : List Int := ((List.range k).filter fun i => m.getD i false).map fun i : Nat => (i : Int)
theorem enB_step (m : List Bool) (k : Nat) : enB m (k + 1) = if m.getD k false then enB m k ++ [(k : Int)] else enB m k := by
  unfold enB; rw [List.range_succ, List.filter_append, List.map_append]
  by_cases h : m.getD k false = true <;> simp [h, -List.getD_eq_getElem?_getD]
theorem enB_len (m : List Bool) (k : Nat) : (enB m k).length ≤ k := by
  unfold enB; rw [List.length_map]; exact Nat.le_trans (List.length_filter_le _ _) (by simp)
theorem enA_enB (D : DfaD) (k : Nat) : enA D k = enB D.2 k := rfl
set_option maxHeartbeats 1000000 in
theorem l8List_c (v : Value) (m : List Bool) (w : World) (h : Bools S w v m) (hn : m.length ≤ 1000000) : Calls Try.prog 202 #[v] w (RVn w fun v w' => OwnI w' w.heap.size v (enB m m.length)) := by
  obtain ⟨a, cap, rfl, _⟩ := h.shape
  have H := Lib.hid h; clear h
  obtain ⟨W, hW⟩ : ∃ W, W = w.alloc (.cells #[] 3) := ⟨_, rfl⟩
  have Hb0 : Hid (Below w.heap.size w W) := by rw [hW]; exact (Below.refl _ _).alloc (Nat.le_refl _) _
  have HO : Hid (OwnI W w.heap.size (.slice (some ⟨w.heap.size, 0, none⟩) 0 0) []) := by rw [hW]; exact ownLit (n := 0) [] (Nat.le_refl _) (by omega) rfl
  have HW := Lib.hid hW; clear hW
  go_enter Try.func202, Try.ntmps202
  go_wp2
  rw [← HW.out]
  go_loopw [3, 4] (fun v i wr => ∃ k : Nat, k ≤ m.length ∧ i = .int .i64 k ∧ Hid (Below w.heap.size w wr) ∧ Hid (OwnI wr w.heap.size v (enB m k))) (fun _ i _ => m.length - (intOf i).toNat)
  case atStart => exact ⟨0, by omega, rfl, Hb0, HO⟩
  case round =>
    obtain ⟨k, hk, rfl, hb, ho⟩ := hrel
    by_cases hlt : k < m.length
    · obtain ⟨b, off, rfl, hc⟩ := (H.out.stay (kpB hb.out)).at hlt
      have hst := enB_step m k
      have hg : m.getD k false = m[k] := by rw [List.getD_eq_getElem?_getD, List.getElem?_eq_getElem hlt]; rfl
      rw [hg] at hst
      clear hg
      have hbs := hb.out.size
      cases hmk : m[k]
      · rw [hmk] at hc hst
        have hst' := Lib.hid hst; clear hst hmk
        go_wp2
        go_roundw
        case rel => exact ⟨k + 1, by omega, by go_num, hb, by rw [hst'.out]; exact ho.out⟩
        case measure => simp [intOf]; omega
      · rw [hmk] at hc hst
        have hst' := Lib.hid hst; clear hst hmk
        have hel := Lib.hid (show (enB m k).length ≤ 1000000000 from by have := enB_len m k; omega)
        go_wp2_with (at_builtin; refine appInt rfl (.tmp 16) (.tmp 18) rfl w.heap.size _ (enB m k) _ wr rfl rfl ho.out hel.out hbs ?_; intro v1 w6 h6 hg6)
        go_roundw
        case rel => exact ⟨k + 1, by omega, by go_num, hb.out.grown hg6 hbs (fun k hk => (World.ownsRow.lt ho.out k hk).1), by rw [hst'.out]; exact h6.out⟩
        case measure => simp [intOf]; omega
    · obtain rfl : k = m.length := by omega
      go_wp2
      go_ret
      exact RVn.mk hb.out ho.out
set_option maxHeartbeats 8000000 in
theorem sNfaOf_c (vn ve : Value) (D : DfaD) (w : World) (h : DfaR S w vn ve D) : Calls Try.prog 200 #[.agg #[vn, ve]] w (RNf w (nfv D)) := by
  obtain ⟨a, c, b, d, rfl, rfl, hn, hm⟩ := h.shapes
  obtain ⟨W, hW⟩ : ∃ W, W = (w.alloc (.cells #[.slice a D.1.length c, .slice b D.2.length d] 26)).alloc (.cells #[.int .i64 0, .slice none 0 0, .slice none 0 0, .slice none 0 0] 75) := ⟨_, rfl⟩
  have Hb0 : Hid (Below w.heap.size w W) := by rw [hW]; exact ((Below.refl _ _).alloc (Nat.le_refl _) _).alloc (by simp) _
  have k0 : Hid (W.heap[w.heap.size]? = some (.cells #[.slice a D.1.length c, .slice b D.2.length d] 26 (0, 0))) := by rw [hW]; exact blkOld (blkNew _ _ rfl)
  have k1 : Hid (W.heap[w.heap.size + 1]? = some (.cells #[.int .i64 0, .slice none 0 0, .slice none 0 0, .slice none 0 0] 75 (0, 0))) := by rw [hW]; exact blkNew _ _ (by simp)
  have hz : Hid (W.heap.size = w.heap.size + 2) := by rw [hW]; simp [Hid]
  have H := Lib.hid h; clear h
  have HW := Lib.hid hW; clear hW
  go_enter Try.func200, Try.ntmps200
  go_wp2_with fail
  rw [← HW.out]
  clear HW
  refine (sDfaValid_c _ _ D W (H.out.stay (kpB Hb0.out))).mono ?_
  rintro e w1 ⟨b1, rfl, hb, hv⟩
  replace Hb0 := Lib.hid (Hb0.out.trans (hb.mono Hb0.out.size))
  replace k0 := Lib.hid (blkBel hb k0.out)
  replace k1 := Lib.hid (blkBel hb k1.out)
  have hz1 := hb.size; clear hb
  cases b1
  · have Ho := Lib.hid (nfv_no (hbF hv)); clear hv
    obtain ⟨e0, e1, e2, e3⟩ := blk4 k1.out
    have g1 := blkFz k1.out
    go_wp2
    refine bodyPost_ret (v := .agg #[.int .i64 0, .slice none 0 0, .slice none 0 0, .slice none 0 0]) (by simp [results, Try.results200, go_sem, e0, e1, e2, e3, g1]) rfl ⟨_, _, _, by rw [Ho.out]; rfl, bel4 Hb0.out (by omega) _ _ _ _, by rw [Ho.out]; exact NfaO.nil _ _⟩
  have hD := hbT hv; clear hv
  have Ho := Lib.hid (nfv_yes hD)
  have HD := Lib.hid hD; clear hD
  obtain ⟨c0, c1, _, _⟩ := blk2 k0.out
  have hbl : w.heap.size < w1.heap.size := (Array.getElem?_eq_some_iff.1 k0.out).1
  go_wp2_with fail
  go_cut [3] (fun s3 wx => ∃ (g : Nat) (vf ve : Value), s3 = .pointer (some ⟨g, 0, none⟩) ∧ Hid (w.heap.size + 1 < g) ∧ Hid (NSt w wx g w.heap.size D.1.length (.slice none 0 0) vf ve [] [0] (enA D D.1.length)) ∧ Hid (wx.heap[w.heap.size]? = some (.cells #[.slice a D.1.length c, .slice b D.2.length d] 26 (0, 0))) ∧ Hid (wx.heap[w.heap.size + 1]? = some (.cells #[.int .i64 0, .slice none 0 0, .slice none 0 0, .slice none 0 0] 75 (0, 0))))
  case first =>
    have hbs : Hid (Below w1.heap.size w1 w1.drew) := (Below.refl _ _).drew
    have HK : Hid (∀ w', Below w1.heap.size w1 w' → w'.cell? ⟨w.heap.size, 0, none⟩ = some (.slice a D.1.length c) ∧ w'.cell? ⟨w.heap.size, 1, none⟩ = some (.slice b D.2.length d)) := fun w' hb => ⟨(blk2 (blkBel hb k0.out)).1, (blk2 (blkBel hb k0.out)).2.1⟩
    have HR : Hid (∀ w', Below w1.heap.size w1 w' → Bools S w' (.slice b D.2.length d) D.2) := fun w' hb => (H.out.stay (kpB (Hb0.out.trans (hb.mono Hb0.out.size)))).2
    have hn40 := HD.out.1.2
    have hlen := Lib.hid HD.out.2.1
    have Fin : Hid (∀ (wx : World) (g L : Nat) (ve : Value), Below w1.heap.size w1 wx → w1.heap.size ≤ g → wx.heap[g]? = some (.cells #[.int .i64 D.1.length, .slice none 0 0, .slice (some ⟨L, 0, none⟩) 1 1, ve] 75 (0, 0)) → wx.heap[L]? = some (.cells #[.int .i64 0] 3 (0, 0)) → w1.heap.size ≤ L → OwnI wx w1.heap.size ve (enB D.2 D.2.length) → ve.ownBlock ≠ some L →
        ∃ (g' : Nat) (vf ve' : Value), Value.pointer (some ⟨g, 0, none⟩) = .pointer (some ⟨g', 0, none⟩) ∧ Hid (w.heap.size + 1 < g') ∧ Hid (NSt w wx g' w.heap.size D.1.length (.slice none 0 0) vf ve' [] [0] (enA D D.1.length)) ∧ Hid (wx.heap[w.heap.size]? = some (.cells #[.slice a D.1.length c, .slice b D.2.length d] 26 (0, 0))) ∧ Hid (wx.heap[w.heap.size + 1]? = some (.cells #[.int .i64 0, .slice none 0 0, .slice none 0 0, .slice none 0 0] 75 (0, 0)))) := fun wx g L ve hb hg hd hl hL hen hne => by
      have hs := Hb0.out.size
      have hs2 := hb.size
      rw [HD.out.2.1] at hen
      exact ⟨g, _, ve, rfl, Nat.lt_of_lt_of_le (Array.getElem?_eq_some_iff.1 k1.out).1 hg, ⟨Hb0.out.trans (hb.mono hs), by omega, hd, Own3.nil _ _ _, ⟨rfl, .inr ⟨L, 1, _, rfl, by omega, hl, Nat.le_refl _, by unfold maxLen; omega, by simp, by simp⟩⟩, ownBase hen hs, ⟨Nat.le_refl _, by omega⟩, fun b hb1 hb2 => by cases hb1; exact hne hb2⟩, blkBel hb k0.out, blkBel hb k1.out⟩
    go_region_held3 (fun w' => w'.cell? ⟨w.heap.size, 0, none⟩ = some (.slice a D.1.length c) ∧ w'.cell? ⟨w.heap.size, 1, none⟩ = some (.slice b D.2.length d))
      (first | exact HK.out _ (by first | exact (Below.refl _ _).drew | exact ((Below.refl _ _).alloc (Nat.le_refl _) _).drew | exact (((Below.refl _ _).alloc (Nat.le_refl _) _).alloc (by simp) _).drew) | exact HK.out _ (hBX.out) | exact HK.out _ (hBX.out.alloc hBX.out.size _) | exact HK.out _ (bel4 hBX.out (by omega) _ _ _ _) | exact HK.out _ ((bel4 hBX.out (by omega) _ _ _ _).alloc (by have := hBX.out.size; simp [World.setCell]; omega) _) | exact HK.out _ ((hBX.out.alloc hBX.out.size _).alloc (by have := hBX.out.size; simp; omega) _))
      (first | (go_at_call 202; refine (l8List_c _ D.2 _ (HR.out _ (by first | exact (Below.refl _ _).drew | exact ((Below.refl _ _).alloc (Nat.le_refl _) _).drew | exact (((Below.refl _ _).alloc (Nat.le_refl _) _).alloc (by simp) _).drew)) (by have := hlen.out; omega)).mono ?_; rintro e v9 ⟨ve, rfl, hb, ho⟩; obtain ⟨a9, n9, c9, rfl⟩ := ho.out.sl; have hBX : Hid (Below w1.heap.size w1 v9) := (Below.trans (B := w1.heap.size) (by first | exact (Below.refl _ _).drew | exact ((Below.refl _ _).alloc (Nat.le_refl _) _).drew | exact (((Below.refl _ _).alloc (Nat.le_refl _) _).alloc (by simp) _).drew) (hb.mono (by simp; try omega))); have hUp := Lib.hid (fun q ob (h : _ = some ob) => blkBel (b := q) hb h); have hsz := Lib.hid hb.size; clear hb; (try ((first | have Kh := hUp.out (w1.heap.size + 1) _ (blkNew (w1.alloc (.cells #[.int .i64 0] 3)) (.cells #[.int .i64 0, .slice none 0 0, .slice none 0 0, .slice none 0 0] 75) (by simp)) | have Kh := hUp.out w1.heap.size _ (blkOld (o := (.cells #[.int .i64 0] 3)) (blkNew w1 (.cells #[.int .i64 0, .slice none 0 0, .slice none 0 0, .slice none 0 0] 75) rfl)) | have Kh := hUp.out w1.heap.size _ (blkNew w1 (.cells #[.int .i64 0, .slice none 0 0, .slice none 0 0, .slice none 0 0] 75) rfl)); obtain ⟨x0, x1, x2, x3⟩ := blk4 Kh; have x4 := blkFz Kh; have x5 := (Array.getElem?_eq_some_iff.1 Kh).1; have KH := Lib.hid Kh; clear Kh))))
    all_goals
      go_wp2_with fail
      go_meet
      have hBs := hBX.out.size
      have hen := ho.out
    · refine Fin.out _ _ w1.heap.size _ (hBX.out.alloc hBs _) hBs (blkNew _ _ rfl) (blkOld (hUp.out _ _ (blkNew w1 _ rfl))) (Nat.le_refl _) (OwnI.stay (ownBase hen (by simp)) ((Below.refl _ _).alloc (Nat.le_refl _) _)) (fun e => by have := (World.ownsRow.lt hen _ e).1; simp at this; omega)
    · have hne := ownNe hen KH.out (by decide)
      refine Fin.out _ _ w1.heap.size _ (bel4 hBX.out (by omega) _ _ _ _) (by omega) (blk4s KH.out) (blkSet (blkSet (blkSet (blkSet (hUp.out _ _ (blkOld (blkNew w1 _ rfl))) (by omega)) (by omega)) (by omega)) (by omega)) (Nat.le_refl _) (ownSetNe (ownSetNe (ownSetNe (ownSetNe (ownBase hen (by simp; try omega)) hne _) hne _) hne _) hne _) (fun e => by have := (World.ownsRow.lt hen _ e).1; simp at this; omega)
    · refine Fin.out _ _ v9.heap.size _ ((hBX.out.alloc hBs _).alloc (by simp; omega) _) (by omega) (blkNew _ _ (by simp)) (blkOld (blkNew _ _ rfl)) hBs (OwnI.stay (OwnI.stay (ownBase hen (by simp)) ((Below.refl _ _).alloc (Nat.le_refl _) _)) ((Below.refl _ _).alloc (Nat.le_refl _) _)) (fun e => by have := (World.ownsRow.lt hen _ e).2; omega)
    · refine Fin.out _ _ (v9.heap.size + 1) _ ((hBX.out.alloc hBs _).alloc (by simp; omega) _) hBs (blkOld (blkNew _ _ rfl)) (blkNew _ _ (by simp)) (by omega) (OwnI.stay (OwnI.stay (ownBase hen (by simp)) ((Below.refl _ _).alloc (Nat.le_refl _) _)) ((Below.refl _ _).alloc (Nat.le_refl _) _)) (fun e => by have := (World.ownsRow.lt hen _ e).2; omega)
    · have hne := ownNe hen KH.out (by decide)
      refine Fin.out _ _ (w1.heap.size + 1) _ (bel4 hBX.out (by omega) _ _ _ _) (by omega) (blk4s KH.out) (blkSet (blkSet (blkSet (blkSet (hUp.out _ _ (blkNew (w1.alloc _) _ (by simp))) (by omega)) (by omega)) (by omega)) (by omega)) (by omega) (ownSetNe (ownSetNe (ownSetNe (ownSetNe (ownBase hen (by simp; try omega)) hne _) hne _) hne _) hne _) (fun e => by have := (World.ownsRow.lt hen _ e).1; simp at this; omega)
    · have hne := ownNe hen KH.out (by decide)
      have hz4 : ∀ x y z u : Value, ((((v9.setCell ⟨w1.heap.size, 0, none⟩ x).setCell ⟨w1.heap.size, 1, none⟩ y).setCell ⟨w1.heap.size, 2, none⟩ z).setCell ⟨w1.heap.size, 3, none⟩ u).heap.size = v9.heap.size := fun _ _ _ _ => by simp [World.setCell]
      refine Fin.out _ _ v9.heap.size _ ((bel4 hBX.out (by omega) _ _ _ _).alloc (by rw [hz4]; exact hBs) _) (by omega) (blkOld (blk4s KH.out)) (blkNew _ _ (by rw [hz4])) hBs (OwnI.stay (ownSetNe (ownSetNe (ownSetNe (ownSetNe (ownBase hen (by simp; try omega)) hne _) hne _) hne _) hne _) ((Below.refl _ _).alloc (Nat.le_refl _) _)) (fun e => by have := (World.ownsRow.lt hen _ e).2; omega)
  case rest =>
    obtain ⟨g, vf, ve, rfl, hgw, hs, h0, h1⟩ := hcut
    clear k0 k1 c0 c1
    have hn40 := HD.out.1.2
    have HC : Hid (∀ wr, Below w.heap.size w wr → DfaR S wr (.slice a D.1.length c) (.slice b D.2.length d) D) := fun wr hb => H.out.stay (kpB hb)
    go_wp2_with fail
    go_loopw [4] (fun i wr => ∃ (k : Nat) (vm : Value), k ≤ D.1.length ∧ i = .int .i64 k ∧ Hid (NSt w wr g w.heap.size D.1.length vm vf ve (mvA D k) [0] (enA D D.1.length)) ∧ Hid (wr.heap[w.heap.size]? = some (.cells #[.slice a D.1.length c, .slice b D.2.length d] 26 (0, 0))) ∧ Hid (wr.heap[w.heap.size + 1]? = some (.cells #[.int .i64 0, .slice none 0 0, .slice none 0 0, .slice none 0 0] 75 (0, 0)))) (fun i _ => D.1.length - (intOf i).toNat)
    case atStart => exact ⟨0, _, by omega, rfl, hs, h0, h1⟩
    case round =>
      obtain ⟨k, vm, hk, rfl, hs2, h02, h12⟩ := hrel
      clear hs h0 h1
      obtain ⟨c0, c1, _, _⟩ := blk2 h02.out
      by_cases hlt : k < D.1.length
      · go_wp2_with fail
        clear c0 c1
        go_loopw [5] (fun i wr => ∃ (j : Nat) (vm : Value), j ≤ 3 ∧ i = .int .i64 j ∧ Hid (NSt w wr g w.heap.size D.1.length vm vf ve (mvA D k ++ mvR D k j) [0] (enA D D.1.length)) ∧ Hid (wr.heap[w.heap.size]? = some (.cells #[.slice a D.1.length c, .slice b D.2.length d] 26 (0, 0))) ∧ Hid (wr.heap[w.heap.size + 1]? = some (.cells #[.int .i64 0, .slice none 0 0, .slice none 0 0, .slice none 0 0] 75 (0, 0)))) (fun i _ => 3 - (intOf i).toNat)
        case atStart => exact ⟨0, vm, by omega, rfl, by simpa [mvR, Hid] using hs2.out, h02, h12⟩
        case round =>
          obtain ⟨j, vm2, hj, rfl, hs3, h03, h13⟩ := hrel
          clear hs2 h02 h12
          by_cases hlt2 : j < 3
          · have hj3 : (j : Int) < 3 := by omega
            obtain ⟨b1, o1, br, or_, cr, e1, hrw, _, hr2⟩ := (HC.out _ hs3.out.bel).row HD.out hlt
            cases e1
            have hel := hr2 j hlt2
            clear hr2
            obtain ⟨d0, d1, _, _⟩ := blk2 h03.out
            obtain ⟨a1, ca1, hv1, _⟩ := hs3.out.mv.shape
            have hml := Lib.hid (show (mvA D k ++ mvR D k j).length ≤ 1000000000 from by rw [List.length_append, mvA_len, mvR_len]; omega)
            have Hst := Lib.hid (mvR_step D k j)
            obtain ⟨xs, hxs⟩ : ∃ xs, xs = mvA D k ++ mvR D k j := ⟨_, rfl⟩
            rw [← hxs] at hs3 hml hv1
            have Hxs := Lib.hid hxs; clear hxs
            obtain ⟨nx, hnx⟩ : ∃ nx, nx = xs.length := ⟨_, rfl⟩
            rw [← hnx] at hv1 hml
            have Hnx := Lib.hid hnx; clear hnx
            subst hv1
            obtain ⟨e0, e1, e2, e3⟩ := blk4 hs3.out.hd
            have HXD := Lib.hid (hs3.out.stay ((Below.refl _ _).drew))
            obtain ⟨y, hy⟩ : ∃ y : Int, y = (dn D k j : Int) := ⟨_, rfl⟩
            rw [← hy] at hel
            have Hy := Lib.hid hy; clear hy
            have HA : Hid (∀ p v, wr.cell? p = some v → (wr.drew.alloc (.cells #[.int .i64 k, .int .i64 j, .int .i64 y] 80)).cell? p = some v) := fun p v h => kpAlloc (S := fun _ => True) _ _ trivial h
            have d0D : wr.drew.cell? ⟨w.heap.size, 0, none⟩ = _ := d0
            have hrwD : wr.drew.cell? ⟨b1, o1 + k, none⟩ = _ := hrw
            have helD : wr.drew.cell? ⟨br, or_ + j, none⟩ = _ := hel
            have e1D : wr.drew.cell? ⟨g, 1, none⟩ = _ := e1
            have e1A := HA.out _ _ e1
            have e1B : (wr.alloc (.cells #[.int .i64 k, .int .i64 j, .int .i64 y] 80)).drew.cell? ⟨g, 1, none⟩ = _ := e1A
            have hsz := hs3.out.sz
            go_wp2_with fail
            go_region_law
              (refine stepAppAt elMove (by decide) rfl (.tmp 30) (.tmp 42) rfl w.heap.size _ _ _ [.int .i64 k, .int .i64 j, .int .i64 y] _ wr.heap.size rfl rfl (HXD.out.mv.alloc _) (by exact blkNew _ _ rfl) rfl (by simp [Value.oneCell']) (by have := hml.out; have := Hnx.out; omega) (by simp; omega) ?_
               intro g7 cap7 w7 ho7 hg7 hat7
               have hg8 : wr.drew.grownBy w7 _ := grownTrans (grownBel ((Below.refl _ _).alloc (Nat.le_refl _) _)) hg7
               have ho8 : Hid (Own3 w7 w.heap.size 80 (.slice (some ⟨g7, 0, none⟩) (xs.length + 1) cap7) (xs ++ [((k : Int), (j : Int), y)])) := by unfold Own3; rw [List.length_append, cells3_app]; exact ho7.out
               have HX7 := Lib.hid (HXD.out.addM hg8 ho8.out)
               have b4' := HXD.out.hdM hg8
               have h07 := Lib.hid (blkGrow hg8 h03.out (fun e => ownNe HXD.out.mv h03.out (by decide) e.symm))
               have h17 := Lib.hid (blkGrow hg8 h13.out (fun e => ownNe HXD.out.mv h13.out (by decide) e.symm))
               obtain ⟨c0', c1', c2', c3'⟩ := blk4 b4'
               have f1' := blkFz b4' 1
               clear b4')
            all_goals (
              have hst2 : xs ++ [((k : Int), (j : Int), y)] = mvA D k ++ mvR D k (j + 1) := by rw [Hst.out, Hxs.out, Hy.out, List.append_assoc]
              rw [hst2] at HX7
              clear hst2 d0D hrwD helD e1D e1A e1B HXD hg8 hat7 hg7 ho7 ho8 c0' c1' c2' c3' f1' d0 d1 e0 e1 e2 e3 hrw hel
              go_wp2
              go_roundw
              case rel => exact ⟨j + 1, _, by omega, by go_num, HX7, blkSet h07.out (by have := hgw.out; omega), blkSet h17.out (by have := hgw.out; omega)⟩
              case measure => simp [intOf]; omega)
          · obtain rfl : j = 3 := by omega
            have hst := mvA_step D k
            rw [← hst] at hs3
            clear hst
            go_wp2
            go_roundw
            case rel => exact ⟨k + 1, vm2, by omega, by go_num, hs3, h03, h13⟩
            case measure => simp [intOf]; omega
      · obtain rfl : k = D.1.length := by omega
        obtain ⟨a1, n1, ca1, rfl⟩ := hs2.out.mv.sl
        obtain ⟨a2, n2, ca2, rfl⟩ := hs2.out.fs.sl
        obtain ⟨a3, n3, ca3, rfl⟩ := hs2.out.en.sl
        obtain ⟨e0, e1, e2, e3⟩ := blk4 hs2.out.hd
        obtain ⟨f0, f1, f2, f3⟩ := blk4 h12.out
        have g1 := blkFz h12.out
        go_wp2
        refine bodyPost_ret (v := .agg #[.int .i64 D.1.length, .slice a1 n1 ca1, .slice a2 n2 ca2, .slice a3 n3 ca3]) (by simp [results, Try.results200, go_sem, f0, f1, f2, f3, g1]) rfl ⟨_, _, _, by rw [Ho.out]; rfl, ?_, ?_⟩
        · exact bel4 hs2.out.bel (by omega) _ _ _ _
        · rw [Ho.out]
          exact hs2.out.o.set4 _ (by omega) h12.out (by decide) _ _ _ _

end Go.Proofs.Ytcbhfopabgiiiaa
