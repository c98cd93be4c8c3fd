/- ExprAccepts of the reference, as far as that it answers; a word drawn near an expression. -/
import Derived.Deep.RegionHeld3
import Derived.Test.YtbcjhiponbfbnaaLtb
import Derived.Test.YtbcjhiponbfbnaaWds
import Derived.Test.YtbcjhiponbfbnaaLwd
import Derived.Test.YtbcjhiponbfbnaaExq2
set_option linter.unusedSimpArgs false
set_option linter.unusedVariables false
set_option linter.unusedSectionVars false
namespace Go.Proofs.Ytbcjhiponbfbnaa
open Go.RowKit
set_option maxRecDepth 100000
variable {S T : Nat → Prop}
/-- The call answers yes or no. -/
def RAny (w : World) (e : Ending) (w' : World) : Prop := ∃ b : Bool, e = .returned (.bool b) ∧ Below w.heap.size w w'
set_option maxHeartbeats 800000 in
theorem sExprAccepts_c (v : Value) (xs : List (Int × Int)) (s : ByteArray) (w : World) (h : Pairs S w v xs) (hl : xs.length ≤ 1048576) (hs : s.size ≤ 60) : Calls Try.prog 84 #[v, .string s] w (RAny w) := by
  obtain ⟨a, cap, rfl, hn⟩ := h.shape
  have H := Lib.hid h; clear h
  have hsm : s.size ≤ maxLen := by unfold maxLen; omega
  go_enter Try.func84, Try.ntmps84
  go_wp2_with fail
  refine (sExprValid_c _ xs w H.out hl).mono ?_
  rintro e w1 ⟨b1, rfl, hb1, hv⟩
  cases b1
  · clear hv
    go_wp2
    go_ret
    exact ⟨_, rfl, hb1⟩
  · obtain ⟨t, ht, rfl, hl60⟩ := (exprOk_iff xs).1 (hbT hv)
    have H1 := Lib.hid (H.out.stay (kpB hb1))
    have HB1 := Lib.hid hb1
    have hl6 : t.flat.length ≤ 60 := hl60
    have hpos := t.flat_pos
    have Ht := Lib.hid ht
    clear hv hb1 H ht hl60
    go_wp2_with fail
    refine (sWordValid_c s w1 hsm).mono ?_
    rintro x w2 ⟨b2, rfl, rfl, hv⟩
    clear hv
    cases b2
    · go_wp2
      go_ret
      exact ⟨_, rfl, HB1.out⟩
    · go_wp2_with fail
      refine (l3Table_c _ t Ht.out s w1 H1.out hl6 hs).mono ?_
      rintro e w3 ⟨vT, tl, rfl, hb3, htl, hT⟩
      have HB3 := Lib.hid (HB1.out.trans (hb3.mono HB1.out.size))
      obtain ⟨L, hL⟩ : ∃ L, L = t.flat.length := ⟨_, rfl⟩
      obtain ⟨m, hm⟩ : ∃ m, L = m + 1 := ⟨L - 1, by omega⟩
      rw [← hL] at htl hl6 hpos hl hn ⊢
      obtain ⟨g, c, rfl, _⟩ := own_some hT.out.own (by rw [htl.out]; omega)
      have htl' : tl.length = m + 1 := by rw [htl.out]; exact hm
      subst hm
      have htl2 := Lib.hid htl'
      rw [htl'] at hT ⊢
      clear hL hb3 htl htl' H1
      obtain ⟨g1, c1, g2, c2, u, x1, x2, x3⟩ := hT.out.rd htl2.out (A := m) (i := 0) (j := s.size) (by omega) (by omega) (by omega)
      go_wp2
      go_ret
      exact ⟨_, rfl, HB3.out⟩
set_option maxHeartbeats 2000000 in
theorem l20Near_x (rb p : Nat) (n : Int) (v : Value) (xs : List (Int × Int)) (w : World) (h : Rdx w rb p) (hp : p ≤ 800000) (hn1 : -9223372036854775808 < n) (he : PL0 w v xs) (hl : xs.length ≤ 61) :
    Calls Try.prog 40 #[.pointer (some ⟨rb, 0, none⟩), v, .int .i64 n] w (fun e w' => ∃ s : ByteArray, e = .returned (.string s) ∧ s.size ≤ 9 ∧ Dr rb w w') := by
  obtain ⟨a, cap, rfl, _⟩ := Pairs.shape he
  have H := Lib.hid h; have HE := Lib.hid he; clear h he
  have hlt0 := H.out.lt
  go_enter Try.func40, Try.ntmps40
  go_wp2_with fail
  refine (l20Word_x rb p n w H.out (by omega) hn1).mono ?_
  rintro e w1 ⟨s0, p1, rfl, hs0, hp1, hd1, hr1⟩
  have HE1 := Lib.hid (HE.out.grown hd1 (fun c hc => by cases hc; exact H.out.noPT))
  have HD1 := Lib.hid hd1
  clear hd1 H HE
  go_wp2_with fail
  refine (pick_x rb p1 _ w1 hr1.out (by omega)).mono ?_
  rintro e w2 ⟨q, rfl, hq0, hq1, hd2, hr2, hz2⟩
  have HE2 := Lib.hid (HE1.out.grown hd2 (fun c hc => by cases hc; exact hr1.out.noPT))
  have HD2 := Lib.hid (HD1.out.trans hd2)
  clear hd2 hr1 HE1 HD1 hz2
  rcases (by omega : q = 0 ∨ q = 1) with rfl | rfl
  · clear hq0 hq1
    go_wp2_with fail
    refine (sExprValid_c _ xs w2 HE2.out (by omega)).mono ?_
    rintro e w3 ⟨b1, rfl, hb3, hv⟩
    have HE3 := Lib.hid (HE2.out.stay hb3)
    have HR3 := Lib.hid (hr2.out.stay hb3)
    have HD3 := Lib.hid (HD2.out.trans (Dr.below hb3))
    clear hv hb3 hr2 HE2 HD2
    cases b1
    · go_wp2
      go_ret
      exact ⟨_, rfl, hs0, HD3.out⟩
    · go_wp2_with fail
      refine (pick_x rb (p1 + 1) _ w3 HR3.out (by omega)).mono ?_
      rintro e w4 ⟨r, rfl, hr0, hr1, hd4, hr4, hz4⟩
      have HE4 := Lib.hid (HE3.out.grown hd4 (fun c hc => by cases hc; exact HR3.out.noPT))
      have HD4 := Lib.hid (HD3.out.trans hd4)
      have hr30 : r ≤ 364 := by omega
      obtain ⟨R, rfl⟩ := Int.eq_ofNat_of_zero_le hr0
      have hR : R ≤ 364 := by omega
      clear hr0 hr1 hd4 hr4 hz4 HE3 HD3 HR3 hr30
      go_wp2_with fail
      go_loopw [8, 9, 10] (fun i _ _ wr => ∃ k : Nat, k ≤ 364 ∧ i = .int .i64 k ∧ Hid (PL0 wr (.slice a xs.length cap) xs) ∧ Hid (Dr rb w wr)) (fun i _ _ _ => 364 - (intOf i).toNat)
      case atStart => exact ⟨R, hR, rfl, HE4, HD4⟩
      case round =>
        clear HE4 HD4
        obtain ⟨k, hk, rfl, hE, hD⟩ := hrel
        by_cases hlt : k < 364
        · have hkI : (k : Int) < 364 := by omega
          go_wp2_with fail
          refine (sWordAt_c k (by omega) wr).mono ?_
          rintro e w5 ⟨s, rfl, hb5, _, _, hs6⟩
          have HE5 := Lib.hid (hE.out.stay hb5)
          have HD5 := Lib.hid (hD.out.trans (Dr.below hb5))
          clear hb5 hE hD
          go_wp2_with fail
          refine (sExprAccepts_c _ xs s w5 HE5.out (by omega) (by omega)).mono ?_
          rintro e w6 ⟨b6, rfl, hb6⟩
          have HE6 := Lib.hid (HE5.out.stay hb6)
          have HD6 := Lib.hid (HD5.out.trans (Dr.below hb6))
          clear hb6 HE5 HD5
          cases b6
          · go_wp2
            go_roundw
            case rel => exact ⟨k + 1, by omega, by go_num, HE6, HD6⟩
            case measure => simp [intOf]; omega
          · go_wp2
            go_ret
            exact ⟨_, rfl, by omega, HD6.out⟩
        · obtain rfl : k = 364 := by omega
          go_wp2
          go_ret
          exact ⟨_, rfl, hs0, hD.out⟩
  · go_wp2
    go_ret
    exact ⟨_, rfl, hs0, HD2.out⟩
set_option maxHeartbeats 800000 in
theorem DrawDeriveWord_c (v : Value) (bs : List UInt8) (w : World) (h : Bytes S w v bs) : Calls Try.prog 8 #[v] w (fun e w' => ∃ (u : Value) (xs : List (Int × Int)) (s : ByteArray), e = .returned (.tuple #[u, .string s]) ∧ xs.length ≤ 61 ∧ s.size ≤ 9 ∧ Below w.heap.size w w' ∧ Hid (PL0 w' u xs)) := by
  have H := Lib.hid h; clear h
  go_enter Try.func8, Try.ntmps8
  go_wp2_with fail
  refine (open_x _ _ w H.out).mono ?_
  rintro e w2 ⟨rb, rfl, hrb, hb2, hr2⟩
  have hs2 := hb2.size
  go_wp2_with fail
  refine (l20Expr_p rb 0 14 w2 hr2.out (by omega) (by omega)).mono ?_
  rintro e w3 ⟨u, xs, p3, rfl, hx, hp3, hd3, hr3, ho⟩
  obtain ⟨a, c, rfl, _⟩ := Pairs.shape ho.out
  go_wp2_with fail
  refine (l20Near_x rb p3 14 _ xs w3 hr3.out (by omega) (by omega) ho.out hx).mono ?_
  rintro e w4 ⟨s, rfl, hs, hd4⟩
  have hF := Lib.hid (ho.out.grown hd4 (fun c hc => by cases hc; exact hr3.out.noPT))
  have hB := Lib.hid (hb2.trans ((hd3.trans hd4).bel hrb hs2))
  clear hd3 hd4 hr3 ho hb2 hr2
  go_wp2
  refine bodyPost_ret (results_tmp2 rfl _ _ _) rfl ?_
  exact ⟨_, xs, s, rfl, hx, hs, hB.out, hF⟩
end Go.Proofs.Ytbcjhiponbfbnaa
