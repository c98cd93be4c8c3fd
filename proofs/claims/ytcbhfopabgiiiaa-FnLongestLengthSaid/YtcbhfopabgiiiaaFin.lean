/- Automata drawn, perhaps with few words; words, texts. -/
import Derived.Test.YtcbhfopabgiiiaaDrd
import Derived.Deep.RegionHeld3
import Derived.Test.YtcbhfopabgiiiaaWss
set_option linter.unusedSimpArgs false
set_option linter.unusedVariables false
set_option linter.unusedSectionVars false
namespace Go.Proofs.Ytcbhfopabgiiiaa
open Go.RowKit
set_option maxRecDepth 100000
variable {S T : Nat → Prop}
/-- A string of at most m bytes was drawn in at most c steps. -/
def DxS (rb p c m : Nat) (w : World) (e : Ending) (w' : World) : Prop := ∃ (s : ByteArray) (p' : Nat), e = .returned (.string s) ∧ s.size ≤ m ∧ p' ≤ p + c ∧ Dr rb w w' ∧ Hid (Rdx w' rb p')
set_option maxRecDepth 100000 in
set_option maxHeartbeats 400000 in
theorem l20Word_x (rb p : Nat) (n : Int) (w : World) (h : Rdx w rb p) (hp : p ≤ 900000) (hn1 : -9223372036854775808 < n) :
    Calls Try.prog 81 #[.pointer (some ⟨rb, 0, none⟩), .int .i64 n] w (DxS rb p 20 9 w) := by
  have H := Lib.hid h; clear h
  go_enter Try.func81, Try.ntmps81
  go_wp2_with fail
  refine (pick_x rb p _ w H.out (by omega)).mono ?_
  rintro e w1 ⟨k0, rfl, hk0, hk1, hd1, hr1, hzz⟩; clear hzz
  go_wp2_with fail
  have hk8 : k0 ≤ 8 := by omega
  obtain ⟨K, rfl⟩ := Int.eq_ofNat_of_zero_le hk0
  clear hk0 hk1
  go_loopw [5, 6] (fun s i wr => ∃ (z : ByteArray) (k p' : Nat), s = .string z ∧ i = .int .i64 k ∧ k ≤ K ∧ z.size + k ≤ 8 ∧ p' + k ≤ p + 1 + K ∧ Dr rb w wr ∧ Hid (Rdx wr rb p')) (fun _ i _ => (intOf i).toNat)
  case atStart => exact ⟨_, K, p + 1, rfl, rfl, by omega, by simp [ByteArray.size]; omega, by omega, hd1, hr1⟩
  case round =>
    obtain ⟨z, k, p', rfl, rfl, hkK, hz, hp', hd, hr⟩ := hrel
    clear hd1 hr1 H
    by_cases hlt : 0 < k
    · go_wp2_with fail
      refine (pick_x rb p' _ _ hr.out (by omega)).mono ?_
      rintro e w2 ⟨r, rfl, hr0, hr1, hd2, hr2, hzz⟩; clear hzz
      have hr3 : r ≤ 2 := by omega
      clear hr1
      have hb := byteStr w2 (97 + r) (UInt8.ofNat (97 + r).toNat) (by rw [UInt8.toNat_ofNat']; omega)
      generalize UInt8.ofNat (97 + r).toNat = c at *
      go_wp2
      go_roundw
      case rel => exact ⟨_, k - 1, p' + 1, rfl, by rw [show ((k - 1 : Nat) : Int) = (k : Int) - 1 by omega], by omega, by rw [ByteArray.size_append]; show z.size + 1 + (k - 1) ≤ 8; omega, by omega, (hd.trans hd2).trans (Dr.below ((Below.refl _ _).alloc (Nat.le_refl _) _)), hr2.out.stay ((Below.refl _ _).alloc (Nat.le_refl _) _)⟩
      case measure => simp [intOf]; omega
    · obtain rfl : k = 0 := by omega
      go_wp2_with fail
      refine (odd_x rb p' _ _ hr.out (by omega) hn1).mono ?_
      rintro e w2 ⟨b, p2, rfl, hp2, hd2, hr2, hzz⟩; clear hzz
      cases b
      · go_wp2
        go_ret
        exact ⟨_, p2, rfl, by omega, by omega, hd.trans hd2, hr2⟩
      · have hlt2 := hr2.out.lt
        go_wp2_with fail
        refine (pick_x rb p2 _ _ (hr2.out.stay ((Below.refl _ _).alloc (Nat.le_refl _) _)) (by omega)).mono ?_
        rintro e w3 ⟨r, rfl, hr0, hr1, hd3, hr3, hzz⟩; clear hzz
        have hcell : ∀ (j : Nat) (v : Value), #[Value.string (z ++ ⟨#[100]⟩), .string (z ++ ⟨#[65]⟩), .string ⟨#[97, 97, 97, 97, 97, 97, 97, 97, 97]⟩][j]? = some v → w3.cell? ⟨w2.heap.size, j, none⟩ = some v :=
          fun j v h => hd3.kp _ _ (by show w2.heap.size ≠ rb; omega) (by rw [World.cell?_alloc_mark]; exact h)
        have hc0 := hcell 0 _ rfl
        have hc1 := hcell 1 _ rfl
        have hc2 := hcell 2 _ rfl
        clear hcell
        have hDr : Dr rb w w3 := ((hd.trans hd2).trans (Dr.below ((Below.refl _ _).alloc (Nat.le_refl _) _))).trans hd3
        clear hd hd2 hd3 hlt2
        rcases (by omega : r = 0 ∨ r = 1 ∨ r = 2) with rfl | rfl | rfl
        all_goals
          clear hr1
          go_wp2
          go_ret
          exact ⟨_, p2 + 1, rfl, by first | (rw [ByteArray.size_append]; show z.size + 1 ≤ 9; omega) | (show 9 ≤ 9; omega), by omega, hDr, hr3⟩
set_option maxRecDepth 100000 in
set_option maxHeartbeats 400000 in
theorem l20Long_x (rb p : Nat) (n : Int) (w : World) (h : Rdx w rb p) (hp : p ≤ 800000) (hn1 : -9223372036854775808 < n) :
    Calls Try.prog 85 #[.pointer (some ⟨rb, 0, none⟩), .int .i64 n] w (DxS rb p 70 85 w) := by
  have H := Lib.hid h; clear h
  go_enter Try.func85, Try.ntmps85
  go_wp2_with fail
  refine (l20Word_x rb p 0 w H.out (by omega) (by omega)).mono ?_
  rintro e w1 ⟨s1, p1, rfl, hs1, hp1, hd1, hr1⟩
  go_wp2_with fail
  refine (l20Word_x rb p1 0 _ hr1.out (by omega) (by omega)).mono ?_
  rintro e w2 ⟨s2, p2, rfl, hs2, hp2, hd2, hr2⟩
  go_wp2_with fail
  refine (l20Word_x rb p2 0 _ hr2.out (by omega) (by omega)).mono ?_
  rintro e w3 ⟨s3, p3, rfl, hs3, hp3, hd3, hr3⟩
  have hsz : (s1 ++ s2 ++ s3).size ≤ 27 := by rw [ByteArray.size_append, ByteArray.size_append]; omega
  have hD : Dr rb w w3 := (hd1.trans hd2).trans hd3
  clear hd1 hd2 hd3 H hr1 hr2
  go_wp2_with fail
  generalize s1 ++ s2 ++ s3 = z at *
  refine (odd_x rb p3 _ _ hr3.out (by omega) hn1).mono ?_
  rintro e w4 ⟨b, p4, rfl, hp4, hd4, hr4, hzz⟩; clear hzz
  cases b
  · go_wp2
    go_ret
    exact ⟨_, p4, rfl, by omega, by omega, hD.trans hd4, hr4⟩
  · have hlt2 := hr4.out.lt
    go_wp2_with fail
    refine (pick_x rb p4 _ _ (hr4.out.stay ((Below.refl _ _).alloc (Nat.le_refl _) _)) (by omega)).mono ?_
    rintro e w5 ⟨r, rfl, hr0, hr1, hd5, hr5, hzz⟩; clear hzz
    have hcell : ∀ (j : Nat) (v : Value), #[Value.string (z ++ ⟨#[100]⟩), .string (z ++ z ++ ⟨#[97, 97, 97, 97, 97, 97, 97, 97, 97, 97, 97, 97, 97, 97, 97, 97, 97, 97, 97, 97, 97, 97, 97, 97, 97, 97, 97, 97, 97, 97, 97]⟩)][j]? = some v → w5.cell? ⟨w4.heap.size, j, none⟩ = some v :=
      fun j v h => hd5.kp _ _ (by show w4.heap.size ≠ rb; omega) (by rw [World.cell?_alloc_mark]; exact h)
    have hc0 := hcell 0 _ rfl
    have hc1 := hcell 1 _ rfl
    clear hcell
    have hDr : Dr rb w w5 := ((hD.trans hd4).trans (Dr.below ((Below.refl _ _).alloc (Nat.le_refl _) _))).trans hd5
    clear hD hd4 hd5 hlt2
    rcases (by omega : r = 0 ∨ r = 1) with rfl | rfl
    all_goals
      clear hr1
      go_wp2
      go_ret
      exact ⟨_, p4 + 1, rfl, by first | (rw [ByteArray.size_append, ByteArray.size_append]; show z.size + z.size + 31 ≤ 85; omega) | (rw [ByteArray.size_append]; show z.size + 1 ≤ 85; omega), by omega, hDr, hr5⟩
/-- An automaton was drawn. -/
def DrF (rb p c : Nat) (w : World) (e : Ending) (w' : World) : Prop := ∃ (D : DfaD) (v1 v2 : Value) (p' : Nat), e = .returned (.agg #[v1, v2]) ∧ p' ≤ p + c ∧ Dr rb w w' ∧ Hid (Rdx w' rb p') ∧ Hid (DfaR (w.heap.size ≤ ·) w' v1 v2 D)
theorem DrF.fin {rb p p' c : Nat} {w wx : World} {D : DfaD} {v1 v2 : Value} (hp : p' ≤ p + c) (hl : rb < w.heap.size) (hd : Dr rb w wx) (hr : Rdx wx rb p') (h : DfaR (w.heap.size + 1 ≤ ·) wx v1 v2 D) :
    DrF rb p c w (.returned (.agg #[v1, v2])) ((wx.setCell ⟨w.heap.size, 0, none⟩ v1).setCell ⟨w.heap.size, 1, none⟩ v2) := by
  have k1 : Kp (· ≠ w.heap.size) wx ((wx.setCell ⟨w.heap.size, 0, none⟩ v1).setCell ⟨w.heap.size, 1, none⟩ v2) := kpSet.trans kpSet
  exact ⟨D, v1, v2, p', rfl, hp, (hd.setCell (Nat.le_refl _) _).setCell (Nat.le_refl _) _, Lib.hid ((hr.set hl _).set hl _), Lib.hid ((h.stay (k1.mono fun b h => by omega)).mono fun b h => by omega)⟩
theorem elStr9 : ElemT 118 9 1 16 := ElemT.of (z := .string ByteArray.empty) Try.underlying118 (by kernel_rfl) rfl (by decide)
set_option maxHeartbeats 8000000 in
theorem l20Finite_c (rb p : Nat) (n : Int) (w : World) (h : Rdx w rb p) (hp : p ≤ 600000) (hn1 : -9223372036854775808 < n) : Calls Try.prog 69 #[.pointer (some ⟨rb, 0, none⟩), .int .i64 n] w (DrF rb p 500 w) := by
  have hlt0 := h.lt
  obtain ⟨W, hW⟩ : ∃ W, W = w.alloc (.cells #[.slice none 0 0, .slice none 0 0] 26) := ⟨_, rfl⟩
  have hb0 : Below w.heap.size w W := by rw [hW]; exact (Below.refl _ _).alloc (Nat.le_refl _) _
  have K4 : Hid (W.heap[w.heap.size]? = some (.cells #[.slice none 0 0, .slice none 0 0] 26 (0, 0))) := by rw [hW]; exact blkNew _ _ rfl
  have hz : W.heap.size = w.heap.size + 1 := by rw [hW]; simp
  have HR0 := Lib.hid (h.stay hb0)
  have Hd0 := Lib.hid (Dr.below (rb := rb) hb0)
  have HW := Lib.hid hW; clear hW h hb0
  have Hz := Lib.hid hz; clear hz
  go_enter Try.func69, Try.ntmps69
  go_wp2_with fail
  rw [← HW.out]; clear HW
  refine (pick_x rb p 2 W HR0.out (by omega)).mono ?_
  rintro e w1 ⟨r, rfl, hr0, hr4, hd1, hr1, hz1⟩
  have HD1 := Lib.hid (Hd0.out.trans hd1)
  have K41 := Lib.hid (hd1.blk K4.out (by omega))
  have hz1' : Hid (w1.heap.size = w.heap.size + 1) := by show _ = _; rw [hz1]; exact Hz.out
  clear hd1 hz1 HR0 Hd0 K4 Hz
  by_cases h0 : r = 0
  · subst h0
    obtain ⟨W1, hW1⟩ : ∃ x, x = w1.alloc (.cells #[] 9) := ⟨_, rfl⟩
    have hb1 : Below w1.heap.size w1 W1 := by rw [hW1]; exact (Below.refl _ _).alloc (Nat.le_refl _) _
    have HO1 : Hid (W1.ownsRow (w.heap.size + 1) 9 1 (.slice (some ⟨w1.heap.size, 0, none⟩) 0 0) 0 []) := by rw [hW1]; exact ownLit (w := w1) [] (by have := hz1'.out; omega) (by omega) rfl
    have HR1 := Lib.hid (hr1.out.stay hb1)
    have HD2 := Lib.hid (HD1.out.trans (Dr.below hb1))
    have K42 := Lib.hid (blkBel hb1 K41.out)
    have HW1 := Lib.hid hW1; clear hW1 hb1 hr1 HD1 K41
    go_wp2_with fail
    rw [← HW1.out]; clear HW1
    refine (pick_x rb (p + 1) 4 W1 HR1.out (by omega)).mono ?_
    rintro e w2 ⟨r2, rfl, hs0, hs4, hd2, hr2, hz2⟩
    obtain ⟨K, rfl⟩ := Int.eq_ofNat_of_zero_le hs0
    have hK : K ≤ 3 := by omega
    have hg0 : Hid (∃ v, v = Value.slice (some ⟨w1.heap.size, 0, none⟩) 0 0 ∧ w2.ownsRow (w.heap.size + 1) 9 1 v 0 []) := ⟨_, rfl, hd2.own HO1.out (by omega)⟩
    have HD3 := Lib.hid (HD2.out.trans hd2)
    have K43 := Lib.hid (hd2.blk K42.out (by omega))
    clear hd2 hz2 HO1 HD2 K42 HR1 hs0 hs4
    go_wp2_with fail
    go_loopw [5, 6] (fun v i wr => ∃ (ss : List ByteArray) (k p' : Nat), i = .int .i64 k ∧ k ≤ K ∧ p' + 20 * k ≤ p + 2 + 20 * K ∧ ss.length + k ≤ K ∧ Hid (∀ s ∈ ss, s.size ≤ 9) ∧ Hid (wr.ownsRow (w.heap.size + 1) 9 1 v ss.length (ss.map .string)) ∧ Dr rb w wr ∧ Hid (Rdx wr rb p') ∧ Hid (wr.heap[w.heap.size]? = some (.cells #[.slice none 0 0, .slice none 0 0] 26 (0, 0)))) (fun _ i _ => (intOf i).toNat)
    case atStart =>
      obtain ⟨v, rfl, ho⟩ := hg0.out
      exact ⟨[], K, p + 2, rfl, by omega, by omega, by simp, by simp [Hid], ho, HD3.out, hr2, K43⟩
    case round =>
      clear hg0 HD3 hr2 K43
      obtain ⟨ss, k, p', rfl, hkK, hp', hsl, hsz, ho, hd, hr, hk4⟩ := hrel
      by_cases hlt : 0 < k
      · go_wp2_with fail
        refine (l20Word_x rb p' 0 _ hr.out (by omega) (by omega)).mono ?_
        rintro e w3 ⟨s, p3, rfl, hs9, hp3, hd3, hr3⟩
        have HO3 := Lib.hid (hd3.own ho.out (by omega))
        have K44 := Lib.hid (hd3.blk hk4.out (by omega))
        have HD4 := Lib.hid (hd.trans hd3)
        clear ho hk4 hd hr hd3
        obtain ⟨a5, c5, rfl, _⟩ := (ownFl HO3.out).shape
        have hs3 : w.heap.size + 1 ≤ w3.heap.size := by have := HD4.out.size; have h5 := (Array.getElem?_eq_some_iff.1 K44.out).1; omega
        by_cases h4 : 4 < s.size
        · have h4I : (4 : Int) ≤ (s.size : Int) := by omega
          go_wp2_with (at_builtin; refine appOne elStr9 (by decide) rfl (.tmp 24) (.tmp 30) rfl (w.heap.size + 1) _ ss.length (ss.map .string) [.string (s.extract 0 4)] w3 rfl rfl HO3.out rfl (by simp [Value.oneCell']) (by omega) hs3 ?_; intro v8 w8 h8 hg8 _; have HO8 := Lib.hid h8; clear h8)
          have hg9 : w3.grownBy w8 _ := grownTrans (grownBel ((Below.refl _ _).alloc (Nat.le_refl _) _)) hg8
          have hge := Lib.hid (fun b hb => (World.ownsRow.lt HO3.out b hb).1)
          go_roundw
          case rel => exact ⟨ss ++ [s.extract 0 4], k - 1, p3, by rw [show ((k - 1 : Nat) : Int) = (k : Int) - 1 by omega], by omega, by omega, by simp; omega, Lib.hid (fun t ht => by rcases List.mem_append.1 ht with ht | ht; exact hsz.out t ht; simp at ht; subst ht; rw [ByteArray.size_extract]; omega), by rw [List.length_append, List.map_append]; exact HO8.out, HD4.out.grown hg9 (fun q hq => by have := hge.out q hq; omega), hr3.out.grow hg9 (fun q hq => by have := hge.out q hq; omega), blkGrow hg9 K44.out (fun e => by have := hge.out _ e.symm; omega)⟩
          case measure => simp [intOf]; omega
        · have h4I : (s.size : Int) ≤ 4 := by omega
          go_wp2_with (at_builtin; refine appOne elStr9 (by decide) rfl (.tmp 24) (.tmp 30) rfl (w.heap.size + 1) _ ss.length (ss.map .string) [.string (s)] w3 rfl rfl HO3.out rfl (by simp [Value.oneCell']) (by omega) hs3 ?_; intro v8 w8 h8 hg8 _; have HO8 := Lib.hid h8; clear h8)
          have hg9 : w3.grownBy w8 _ := grownTrans (grownBel ((Below.refl _ _).alloc (Nat.le_refl _) _)) hg8
          have hge := Lib.hid (fun b hb => (World.ownsRow.lt HO3.out b hb).1)
          go_roundw
          case rel => exact ⟨ss ++ [s], k - 1, p3, by rw [show ((k - 1 : Nat) : Int) = (k : Int) - 1 by omega], by omega, by omega, by simp; omega, Lib.hid (fun t ht => by rcases List.mem_append.1 ht with ht | ht; exact hsz.out t ht; simp at ht; subst ht; first | omega | (rw [ByteArray.size_extract]; omega)), by rw [List.length_append, List.map_append]; exact HO8.out, HD4.out.grown hg9 (fun q hq => by have := hge.out q hq; omega), hr3.out.grow hg9 (fun q hq => by have := hge.out q hq; omega), blkGrow hg9 K44.out (fun e => by have := hge.out _ e.symm; omega)⟩
          case measure => simp [intOf]; omega
      · obtain rfl : k = 0 := by omega
        obtain ⟨a5, c5, rfl, _⟩ := (ownFl ho.out).shape
        go_wp2_with fail
        refine (sWordsExpr_c _ ss wr ⟨(ownFl ho.out).fl, fun s hs => by have := hsz.out s hs; unfold maxLen; omega⟩).mono ?_
        rintro e w4 ⟨ve, b4, rfl, hb4, hQ, hoP⟩
        have HD4 := Lib.hid (hd.trans (Dr.below hb4))
        have HR4 := Lib.hid (hr.out.stay hb4)
        have K44 := Lib.hid (blkBel hb4 hk4.out)
        clear hd hr hk4 ho hQ hb4
        cases b4
        · skip
          go_wp2_with fail
          refine (l20Dfa_c rb p' n w4 (HR4.out) (by omega) hn1).mono ?_
          rintro e wz ⟨Dz, z1, z2, pz, rfl, ⟨hpz, _⟩, hdz, hrz, hDz⟩
          obtain ⟨aZ, cZ, bZ, dZ, rfl, rfl, _, _⟩ := hDz.out.shapes
          have KZ := Lib.hid (hdz.blk K44.out (by omega))
          obtain ⟨y0, y1, y2, y3⟩ := blk2 KZ.out
          have hdw : Dr rb w w4 := HD4.out
          have hsw := hdw.size
          have h9 := (Array.getElem?_eq_some_iff.1 (K44.out)).1
          go_wp2
          refine bodyPost_ret (v := .agg #[.slice aZ Dz.1.length cZ, .slice bZ Dz.2.length dZ]) (by simp [results, Try.results69, go_sem, y0, y1, y2]) rfl ?_
          exact DrF.fin (by omega) hlt0 (hdw.trans hdz) hrz.out (hDz.out.mono fun b h => by have h' : (w4).heap.size ≤ b := h; omega)
        · obtain ⟨aP, cP, rfl, _⟩ := (ownFl hoP.out).shape
          go_wp2_with fail
          refine (CompileExpr_c _ (wsv ss) w4 (ownFl hoP.out).fl (by have := wsv_len ss; omega)).mono ?_
          rintro e w5 ⟨D, v1, v2, b5, rfl, hb5, hok, hDv⟩
          obtain ⟨aD, cD, bD, dD, rfl, rfl, _, _⟩ := hDv.out.shapes
          obtain ⟨W5, hW5⟩ : ∃ x, x = w5.alloc (.cells #[.slice aD D.1.length cD, .slice bD D.2.length dD] 26) := ⟨_, rfl⟩
          have hb5' : Below w4.heap.size w4 W5 := by rw [hW5]; exact hb5.alloc hb5.size _
          have HD5 := Lib.hid (HD4.out.trans (Dr.below hb5'))
          have HR5 := Lib.hid (HR4.out.stay hb5')
          have K45 := Lib.hid (blkBel hb5' K44.out)
          have hDv5 : Hid (DfaR (w4.heap.size ≤ ·) W5 (.slice aD D.1.length cD) (.slice bD D.2.length dD) D) := by rw [hW5]; exact hDv.out.stay kpAlloc
          have hK5 : Hid (W5.heap[w5.heap.size]? = some (.cells #[.slice aD D.1.length cD, .slice bD D.2.length dD] 26 (0, 0))) := by rw [hW5]; exact blkNew _ _ rfl
          have h94 := (Array.getElem?_eq_some_iff.1 K44.out).1
          have HW5 := Lib.hid hW5; clear hW5 hb5 hb5' hDv
          obtain ⟨d0, d1, d2, d3⟩ := blk2 hK5.out
          obtain ⟨k0, k1, k2, k3⟩ := blk2 K45.out
          rw [HW5.out] at d0 d1 k0 k1 k2 k3
          cases b5
          · clear d0 d1 d2 d3 k0 k1 k2 k3
            go_wp2_with fail
            rw [← HW5.out]; clear HW5
            refine (l20Dfa_c rb p' n W5 (HR5.out) (by omega) hn1).mono ?_
            rintro e wz ⟨Dz, z1, z2, pz, rfl, ⟨hpz, _⟩, hdz, hrz, hDz⟩
            obtain ⟨aZ, cZ, bZ, dZ, rfl, rfl, _, _⟩ := hDz.out.shapes
            have KZ := Lib.hid (hdz.blk K45.out (by omega))
            obtain ⟨y0, y1, y2, y3⟩ := blk2 KZ.out
            have hdw : Dr rb w W5 := HD5.out
            have hsw := hdw.size
            have h9 := (Array.getElem?_eq_some_iff.1 (K45.out)).1
            go_wp2
            refine bodyPost_ret (v := .agg #[.slice aZ Dz.1.length cZ, .slice bZ Dz.2.length dZ]) (by simp [results, Try.results69, go_sem, y0, y1, y2]) rfl ?_
            exact DrF.fin (by omega) hlt0 (hdw.trans hdz) hrz.out (hDz.out.mono fun b h => by have h' : (W5).heap.size ≤ b := h; omega)
          · go_wp2
            rw [← HW5.out]
            clear d0 d1 d2 d3 k0 k1 k2 k3
            obtain ⟨y0, y1, y2, y3⟩ := blk2 (heap_set (heap_set K45.out 0 (.slice aD D.1.length cD)) 1 (.slice bD D.2.length dD))
            refine bodyPost_ret (v := .agg #[.slice aD D.1.length cD, .slice bD D.2.length dD]) (by simp [results, Try.results69, go_sem, y0, y1, y2]) rfl ?_
            exact DrF.fin (by omega) hlt0 HD5.out HR5.out (hDv5.out.mono fun b h => by have h' : w4.heap.size ≤ b := h; omega)
  · have e0 : (r == 0) = false := by simpa using h0
    go_wp2_with fail
    refine (l20Dfa_c rb (p + 1) n w1 (hr1.out) (by omega) hn1).mono ?_
    rintro e wz ⟨Dz, z1, z2, pz, rfl, ⟨hpz, _⟩, hdz, hrz, hDz⟩
    obtain ⟨aZ, cZ, bZ, dZ, rfl, rfl, _, _⟩ := hDz.out.shapes
    have KZ := Lib.hid (hdz.blk K41.out (by omega))
    obtain ⟨y0, y1, y2, y3⟩ := blk2 KZ.out
    have hdw : Dr rb w w1 := HD1.out
    have hsw := hdw.size
    have h9 := (Array.getElem?_eq_some_iff.1 K41.out).1
    go_wp2
    refine bodyPost_ret (v := .agg #[.slice aZ Dz.1.length cZ, .slice bZ Dz.2.length dZ]) (by simp [results, Try.results69, go_sem, y0, y1, y2]) rfl ?_
    exact DrF.fin (by omega) hlt0 (hdw.trans hdz) hrz.out (hDz.out.mono fun b h => by have h' : (w1).heap.size ≤ b := h; omega)
theorem kpTwo {w : World} {b B : Nat} (u v : Value) (h : B ≠ b) : Kp (· = B) w ((w.setCell ⟨b, 0, none⟩ u).setCell ⟨b, 1, none⟩ v) :=
  (kpSet (b := b)).mono (fun k e => by subst e; exact h) |>.trans ((kpSet (b := b)).mono fun k e => by subst e; exact h)
/-- The call answers an automaton to be read and a string. -/
def RDs (w : World) (e : Ending) (w' : World) : Prop := ∃ (D : DfaD) (v1 v2 : Value) (s : ByteArray), e = .returned (.tuple #[.agg #[v1, v2], .string s]) ∧ s.size ≤ 1000 ∧ Below w.heap.size w w' ∧ Hid (DfaR (w.heap.size ≤ ·) w' v1 v2 D)
def RDss (w : World) (e : Ending) (w' : World) : Prop := ∃ (D : DfaD) (v1 v2 : Value) (s x : ByteArray), e = .returned (.tuple #[.agg #[v1, v2], .string s, .string x]) ∧ s.size ≤ 1000 ∧ x.size ≤ 1000 ∧ Below w.heap.size w w' ∧ Hid (DfaR (w.heap.size ≤ ·) w' v1 v2 D)
set_option maxHeartbeats 400000 in
theorem DrawLongestLength_c (v : Value) (bs : List UInt8) (w : World) (h : Bytes S w v bs) : Calls Try.prog 15 #[v] w (RDa w) := by
  obtain ⟨W, hW⟩ : ∃ W, W = w.alloc (.cells #[.slice none 0 0, .slice none 0 0] 26) := ⟨_, rfl⟩
  have Hb0 : Hid (Below w.heap.size w W) := by rw [hW]; exact (Below.refl _ _).alloc (Nat.le_refl _) _
  have K2 : Hid (W.heap[w.heap.size]? = some (.cells #[.slice none 0 0, .slice none 0 0] 26 (0, 0))) := by rw [hW]; exact blkNew _ _ rfl
  have hz : Hid (W.heap.size = w.heap.size + 1) := by rw [hW]; simp [Hid]
  have H := Lib.hid (h.stay (kpB Hb0.out)); clear h
  have HW := Lib.hid hW; clear hW
  go_enter Try.func15, Try.ntmps15
  go_wp2_with fail
  rw [← HW.out]
  clear HW
  refine (open_x _ _ W H.out).mono ?_
  rintro e w2 ⟨rb, rfl, hrb, hb2, hr2⟩
  have hz2 := hz.out
  have hs2 := hb2.size
  go_wp2_with fail
  refine (l20Finite_c rb 0 12 w2 hr2.out (by omega) (by omega)).mono ?_
  rintro e w3 ⟨D, v1, v2, p3, rfl, hp3, hd3, hr3, hD3⟩
  obtain ⟨aN, cN, aE, cE, rfl, rfl, _, _⟩ := hD3.out.shapes
  have K3 := Lib.hid (hd3.blk (blkBel hb2 K2.out) (by omega))
  obtain ⟨c0, c1, f0, f1⟩ := blk2 K3.out
  clear hz2
  go_wp2
  refine bodyPost_ret (v := .agg #[.slice aN D.1.length cN, .slice aE D.2.length cE]) (by simp [results, Try.results15, go_sem, c0, c1, f0]) rfl ?_
  exact RDa.fin Hb0.out rfl (by rw [hz.out]; omega) hb2 hrb hd3 hD3.out
set_option maxHeartbeats 2000000 in
theorem DrawRankWord_c (v : Value) (bs : List UInt8) (w : World) (h : Bytes S w v bs) : Calls Try.prog 23 #[v] w (RDs w) := by
  obtain ⟨W, hW⟩ : ∃ W, W = w.alloc (.cells #[.slice none 0 0, .slice none 0 0] 26) := ⟨_, rfl⟩
  have Hb0 : Hid (Below w.heap.size w W) := by rw [hW]; exact (Below.refl _ _).alloc (Nat.le_refl _) _
  have K2 : Hid (W.heap[w.heap.size]? = some (.cells #[.slice none 0 0, .slice none 0 0] 26 (0, 0))) := by rw [hW]; exact blkNew _ _ rfl
  have hz : Hid (W.heap.size = w.heap.size + 1) := by rw [hW]; simp [Hid]
  have H := Lib.hid (h.stay (kpB Hb0.out)); clear h
  have HW := Lib.hid hW; clear hW
  go_enter Try.func23, Try.ntmps23
  go_wp2_with fail
  rw [← HW.out]
  clear HW
  refine (open_x _ _ W H.out).mono ?_
  rintro e w2 ⟨rb, rfl, hrb, hb2, hr2⟩
  have hz2 := hz.out
  have hs2 := hb2.size
  go_wp2_with fail
  refine (l20Finite_c rb 0 14 w2 hr2.out (by omega) (by omega)).mono ?_
  rintro e w3 ⟨D, v1, v2, p3, rfl, hp3, hd3, hr3, hD3⟩
  obtain ⟨aN, cN, aE, cE, rfl, rfl, _, _⟩ := hD3.out.shapes
  have K3 := Lib.hid (hd3.blk (blkBel hb2 K2.out) (by omega))
  have hrl := hr3.out.lt
  have hrl2 := hr2.out.lt
  have hs3 := hd3.size
  have HB3 := Lib.hid ((Hb0.out.trans (hb2.mono (by omega))).trans (hd3.bel (B := w.heap.size) (by omega) (by omega)))
  obtain ⟨W3, hW3⟩ : ∃ x, x = w3.alloc (.cells #[.slice aN D.1.length cN, .slice aE D.2.length cE] 26) := ⟨_, rfl⟩
  have hb3 : Below w3.heap.size w3 W3 := by rw [hW3]; exact (Below.refl _ _).alloc (Nat.le_refl _) _
  have K33 := Lib.hid (blkBel hb3 K3.out)
  have K5 : Hid (W3.heap[w3.heap.size]? = some (.cells #[.slice aN D.1.length cN, .slice aE D.2.length cE] 26 (0, 0))) := by rw [hW3]; exact blkNew _ _ rfl
  have HR3 := Lib.hid (hr3.out.stay hb3)
  have HD3 := Lib.hid (hD3.out.stay (kpB hb3))
  have HB4 := Lib.hid (HB3.out.trans (hb3.mono HB3.out.size))
  have hz3 : W3.heap.size = w3.heap.size + 1 := by rw [hW3]; simp
  have HW3 := Lib.hid hW3
  obtain ⟨c0, c1, c2, c3⟩ := blk2 K5.out
  clear hW3 hb3 K3 hr3 hD3 HB3 K2 H
  rw [HW3.out] at c0 c1
  go_wp2_with fail
  rw [← HW3.out] at c0 c1 ⊢
  clear HW3
  have hS : Hid (∀ w', Kp (· = w3.heap.size) W3 w' → w'.cell? ⟨w3.heap.size, 0, none⟩ = some (.slice aN D.1.length cN) ∧ w'.cell? ⟨w3.heap.size, 1, none⟩ = some (.slice aE D.2.length cE)) := fun w' hk => ⟨hk _ _ rfl (blk2 K5.out).1, hk _ _ rfl (blk2 K5.out).2.1⟩
  have hk0 : Kp (· = w3.heap.size) W3 W3.drew := fun _ _ _ e => e
  have HRd : Hid (Rdx W3.drew rb p3) := HR3.out.stay ((Below.refl _ _).drew)
  clear c0 c1 c2 c3
  go_region_held3 (fun w' => w'.cell? ⟨w3.heap.size, 0, none⟩ = some (.slice aN D.1.length cN) ∧ w'.cell? ⟨w3.heap.size, 1, none⟩ = some (.slice aE D.2.length cE))
    (first | exact hS.out _ (by assumption) | exact hS.out _ (Kp.trans (by assumption) (kpTwo _ _ (by omega))))
    (first
      | (go_at_call 81; refine (l20Word_x rb p3 14 _ HRd.out (by omega) (by omega)).mono ?_; rintro e w5 ⟨s, p5, rfl, hs, hp5, hd5, hr5⟩; have hk5 : Kp (· = w3.heap.size) W3 w5 := hk0.trans (hd5.kp.mono fun b e => by have e' : b = w3.heap.size := e; show b ≠ rb; omega); have K6 := Lib.hid (hd5.blk (w := W3.drew) K33.out (by omega)); obtain ⟨q0, q1, q2, q3⟩ := blk2 K6.out))
  clear hS hk0 q0 q1 q2 q3 hk5
  obtain ⟨y0, y1, y2, y3⟩ := blk2 (heap_set (heap_set K6.out 0 (.slice aN D.1.length cN)) 1 (.slice aE D.2.length cE))
  have hs5 := hd5.size
  have hbb : Below w.heap.size w w5 := HB4.out.trans ((Below.refl _ _).drew.trans (hd5.bel (B := w.heap.size) (by omega) (by show w.heap.size ≤ W3.heap.size; omega)))
  have hkk : Kp (w.heap.size + 1 ≤ ·) w5 ((w5.setCell ⟨w.heap.size, 0, none⟩ (.slice aN D.1.length cN)).setCell ⟨w.heap.size, 1, none⟩ (.slice aE D.2.length cE)) := (kpSet.mono fun b h => by omega).trans (kpSet.mono fun b h => by omega)
  have hfin := Lib.hid (⟨D, _, _, s, rfl, by omega, (hbb.setCell (p := ⟨w.heap.size, 0, none⟩) (Nat.le_refl _) _).setCell (p := ⟨w.heap.size, 1, none⟩) (Nat.le_refl _) _, Lib.hid (((((HD3.out.mono (T := fun b => w2.heap.size ≤ b) (fun b h => h)).stay (w' := w5) ((hd5.kp (rb := rb)).mono fun b h => by have h' : w2.heap.size ≤ b := h; show b ≠ rb; omega)).mono (T := (w.heap.size + 1 ≤ ·)) fun b h => by have h' : w2.heap.size ≤ b := h; omega).stay hkk).mono fun b h => by omega)⟩ : RDs w (.returned (.tuple #[.agg #[.slice aN D.1.length cN, .slice aE D.2.length cE], .string s])) ((w5.setCell ⟨w.heap.size, 0, none⟩ (.slice aN D.1.length cN)).setCell ⟨w.heap.size, 1, none⟩ (.slice aE D.2.length cE)))
  go_wp2
  refine bodyPost_ret (v := .tuple #[.agg #[.slice aN D.1.length cN, .slice aE D.2.length cE], .string s]) (by simp [results, Try.results23, go_sem, y0, y1, y2]) rfl ?_
  exact hfin.out
set_option maxHeartbeats 2000000 in
theorem DrawFindAll_c (v : Value) (bs : List UInt8) (w : World) (h : Bytes S w v bs) : Calls Try.prog 26 #[v] w (RDs w) := by
  obtain ⟨W, hW⟩ : ∃ W, W = w.alloc (.cells #[.slice none 0 0, .slice none 0 0] 26) := ⟨_, rfl⟩
  have Hb0 : Hid (Below w.heap.size w W) := by rw [hW]; exact (Below.refl _ _).alloc (Nat.le_refl _) _
  have K2 : Hid (W.heap[w.heap.size]? = some (.cells #[.slice none 0 0, .slice none 0 0] 26 (0, 0))) := by rw [hW]; exact blkNew _ _ rfl
  have hz : Hid (W.heap.size = w.heap.size + 1) := by rw [hW]; simp [Hid]
  have H := Lib.hid (h.stay (kpB Hb0.out)); clear h
  have HW := Lib.hid hW; clear hW
  go_enter Try.func26, Try.ntmps26
  go_wp2_with fail
  rw [← HW.out]
  clear HW
  refine (open_x _ _ W H.out).mono ?_
  rintro e w2 ⟨rb, rfl, hrb, hb2, hr2⟩
  have hz2 := hz.out
  have hs2 := hb2.size
  go_wp2_with fail
  refine (l20Finite_c rb 0 14 w2 hr2.out (by omega) (by omega)).mono ?_
  rintro e w3 ⟨D, v1, v2, p3, rfl, hp3, hd3, hr3, hD3⟩
  obtain ⟨aN, cN, aE, cE, rfl, rfl, _, _⟩ := hD3.out.shapes
  have K3 := Lib.hid (hd3.blk (blkBel hb2 K2.out) (by omega))
  have hrl := hr3.out.lt
  have hrl2 := hr2.out.lt
  have hs3 := hd3.size
  have HB3 := Lib.hid ((Hb0.out.trans (hb2.mono (by omega))).trans (hd3.bel (B := w.heap.size) (by omega) (by omega)))
  obtain ⟨W3, hW3⟩ : ∃ x, x = w3.alloc (.cells #[.slice aN D.1.length cN, .slice aE D.2.length cE] 26) := ⟨_, rfl⟩
  have hb3 : Below w3.heap.size w3 W3 := by rw [hW3]; exact (Below.refl _ _).alloc (Nat.le_refl _) _
  have K33 := Lib.hid (blkBel hb3 K3.out)
  have K5 : Hid (W3.heap[w3.heap.size]? = some (.cells #[.slice aN D.1.length cN, .slice aE D.2.length cE] 26 (0, 0))) := by rw [hW3]; exact blkNew _ _ rfl
  have HR3 := Lib.hid (hr3.out.stay hb3)
  have HD3 := Lib.hid (hD3.out.stay (kpB hb3))
  have HB4 := Lib.hid (HB3.out.trans (hb3.mono HB3.out.size))
  have hz3 : W3.heap.size = w3.heap.size + 1 := by rw [hW3]; simp
  have HW3 := Lib.hid hW3
  obtain ⟨c0, c1, c2, c3⟩ := blk2 K5.out
  clear hW3 hb3 K3 hr3 hD3 HB3 K2 H
  rw [HW3.out] at c0 c1
  go_wp2_with fail
  rw [← HW3.out] at c0 c1 ⊢
  clear HW3
  have hS : Hid (∀ w', Kp (· = w3.heap.size) W3 w' → w'.cell? ⟨w3.heap.size, 0, none⟩ = some (.slice aN D.1.length cN) ∧ w'.cell? ⟨w3.heap.size, 1, none⟩ = some (.slice aE D.2.length cE)) := fun w' hk => ⟨hk _ _ rfl (blk2 K5.out).1, hk _ _ rfl (blk2 K5.out).2.1⟩
  have hk0 : Kp (· = w3.heap.size) W3 W3.drew := fun _ _ _ e => e
  have HRd : Hid (Rdx W3.drew rb p3) := HR3.out.stay ((Below.refl _ _).drew)
  clear c0 c1 c2 c3
  go_region_held3 (fun w' => w'.cell? ⟨w3.heap.size, 0, none⟩ = some (.slice aN D.1.length cN) ∧ w'.cell? ⟨w3.heap.size, 1, none⟩ = some (.slice aE D.2.length cE))
    (first | exact hS.out _ (by assumption) | exact hS.out _ (Kp.trans (by assumption) (kpTwo _ _ (by omega))))
    (first
      | (go_at_call 85; refine (l20Long_x rb p3 14 _ HRd.out (by omega) (by omega)).mono ?_; rintro e w5 ⟨s, p5, rfl, hs, hp5, hd5, hr5⟩; have hk5 : Kp (· = w3.heap.size) W3 w5 := hk0.trans (hd5.kp.mono fun b e => by have e' : b = w3.heap.size := e; show b ≠ rb; omega); have K6 := Lib.hid (hd5.blk (w := W3.drew) K33.out (by omega)); obtain ⟨q0, q1, q2, q3⟩ := blk2 K6.out))
  clear hS hk0 q0 q1 q2 q3 hk5
  obtain ⟨y0, y1, y2, y3⟩ := blk2 (heap_set (heap_set K6.out 0 (.slice aN D.1.length cN)) 1 (.slice aE D.2.length cE))
  have hs5 := hd5.size
  have hbb : Below w.heap.size w w5 := HB4.out.trans ((Below.refl _ _).drew.trans (hd5.bel (B := w.heap.size) (by omega) (by show w.heap.size ≤ W3.heap.size; omega)))
  have hkk : Kp (w.heap.size + 1 ≤ ·) w5 ((w5.setCell ⟨w.heap.size, 0, none⟩ (.slice aN D.1.length cN)).setCell ⟨w.heap.size, 1, none⟩ (.slice aE D.2.length cE)) := (kpSet.mono fun b h => by omega).trans (kpSet.mono fun b h => by omega)
  have hfin := Lib.hid (⟨D, _, _, s, rfl, by omega, (hbb.setCell (p := ⟨w.heap.size, 0, none⟩) (Nat.le_refl _) _).setCell (p := ⟨w.heap.size, 1, none⟩) (Nat.le_refl _) _, Lib.hid (((((HD3.out.mono (T := fun b => w2.heap.size ≤ b) (fun b h => h)).stay (w' := w5) ((hd5.kp (rb := rb)).mono fun b h => by have h' : w2.heap.size ≤ b := h; show b ≠ rb; omega)).mono (T := (w.heap.size + 1 ≤ ·)) fun b h => by have h' : w2.heap.size ≤ b := h; omega).stay hkk).mono fun b h => by omega)⟩ : RDs w (.returned (.tuple #[.agg #[.slice aN D.1.length cN, .slice aE D.2.length cE], .string s])) ((w5.setCell ⟨w.heap.size, 0, none⟩ (.slice aN D.1.length cN)).setCell ⟨w.heap.size, 1, none⟩ (.slice aE D.2.length cE)))
  go_wp2
  refine bodyPost_ret (v := .tuple #[.agg #[.slice aN D.1.length cN, .slice aE D.2.length cE], .string s]) (by simp [results, Try.results26, go_sem, y0, y1, y2]) rfl ?_
  exact hfin.out
end Go.Proofs.Ytcbhfopabgiiiaa
