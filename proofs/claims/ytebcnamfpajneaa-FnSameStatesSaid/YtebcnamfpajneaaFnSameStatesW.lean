/- FnSameStates answers true: the walk. -/
import Derived.Test.YtebcnamfpajneaaDrd
import Derived.Test.YtebcnamfpajneaaGG
import Derived.Test.YtebcnamfpajneaaGI
import Derived.Test.YtebcnamfpajneaaSss
import Derived.Deep.RegionHeld3
set_option linter.unusedSimpArgs false
set_option linter.unusedVariables false
set_option linter.unusedSectionVars false
namespace Go.Proofs.Ytebcnamfpajneaa.fnSameStates
open Go.RowKit
set_option maxRecDepth 100000
theorem cls_dn {D : DfaD} (hD : okD D) {k c : Nat} (hc : c < 3) : cls D (dn D (cls D k) c) = cls D (dn D k c) := by
  rw [cls_same, ← lg_dv (dn D) (de D) (cls D k) hc, ← lg_dv (dn D) (de D) k hc, cls_lg]
theorem cls_de (D : DfaD) (k : Nat) : de D (cls D k) = de D k := by
  have := congrFun (cls_lg D k) []
  exact this
set_option maxHeartbeats 4000000 in
theorem walk (w : World) (v : Value) (bs : List UInt8) (h : Bytes (fun _ => True) w v bs) :
    Calls Try.prog 4 #[v] w (Yes w) := by
  obtain ⟨a, cap, rfl, hn⟩ := h.shape
  have H := Lib.hid h; clear h
  by_cases hl : 1048576 < bs.length
  · go_enter Try.func4, Try.ntmps4
    go_wp2
    go_ret
    exact ⟨rfl, Below.refl _ _⟩
  · go_enter Try.func4, Try.ntmps4
    go_wp2_with fail
    refine (DrawSameStates_c _ _ _ H.out).mono ?_
    rintro e w1 ⟨D, v1, v2, rfl, hb1, hd1⟩
    clear H hn hl
    obtain ⟨aD, cD, bD, dD, rfl, rfl, hnD, hmD⟩ := (hd1.out).shapes
    obtain ⟨W1, hW1, HN, XD⟩ := boxed hb1 (hd1.out)
    have HB := HN; clear HN
    have HW := Lib.hid hW1; clear hW1
    have zD0 := XD.out.c0
    have zD1 := XD.out.c1
    rw [HW.out] at zD0 zD1
    go_wp2_with fail
    rw [← HW.out]; clear HW
    clear zD0 zD1
    refine (SameStates_c (.slice aD D.1.length cD) (.slice bD D.2.length dD) D W1 XD.out.r).mono ?_
    rintro e w2 ⟨v, rfl, hb, hv⟩
    replace XD := Lib.hid (XD.out.stay hb)
    replace HB := Lib.hid (belUp HB.out (hb))
    obtain ⟨xs, hxs⟩ : ∃ xs, xs = ssL D := ⟨_, rfl⟩
    have hv2 : Hid (Ints (W1.heap.size ≤ ·) w2 v xs) := Lib.hid (by rw [hxs]; exact hv.out.fl)
    replace hxs := Lib.hid hxs
    clear hv hb
    obtain ⟨av, cv, rfl, hnv⟩ := hv2.out.shape
    have zD0 := XD.out.c0
    have zD1 := XD.out.c1
    go_wp2_with fail
    clear zD0 zD1
    refine (sSameStates_c (.slice aD D.1.length cD) (.slice bD D.2.length dD) D w2 XD.out.r).mono ?_
    rintro e w3 ⟨y, rfl, hb, hy⟩
    have hy2 : Hid (Ints (w2.heap.size ≤ ·) w3 y xs) := Lib.hid (by rw [hxs.out]; exact hy.out.fl)
    replace hv2 := Lib.hid (hv2.out.stay (kpB hb))
    replace XD := Lib.hid (XD.out.stay hb)
    replace HB := Lib.hid (belUp HB.out (hb))
    clear hb hy
    go_wp2_with fail
    refine (sameInts_c _ _ xs xs w3 hv2.out hy2.out).mono ?_
    rintro e w4 ⟨b4, rfl, hb, hp⟩
    obtain rfl : b4 = true := hp.out.2 rfl
    replace hv2 := Lib.hid (hv2.out.stay (kpB hb))
    replace XD := Lib.hid (XD.out.stay hb)
    replace HB := Lib.hid (belUp HB.out (hb))
    clear hb hy2 hp
    have zD0 := XD.out.c0
    have zD1 := XD.out.c1
    go_wp2_with fail
    clear zD0 zD1
    refine (sDfaValid_c (.slice aD D.1.length cD) (.slice bD D.2.length dD) D w4 XD.out.r).mono ?_
    rintro e w5 ⟨okd, rfl, hb, hokd⟩
    replace hv2 := Lib.hid (hv2.out.stay (kpB hb))
    replace XD := Lib.hid (XD.out.stay hb)
    replace HB := Lib.hid (belUp HB.out (hb))
    clear hb
    cases okd
    · have hx0 : xs = [] := by rw [hxs.out]; exact ssL_neg (hbF hokd)
      subst hx0
      go_wp2_with fail
      refine (alive_c _).mono ?_
      rintro e w9 ⟨b9, rfl, rfl, hb9⟩
      obtain rfl : b9 = true := hb9.out.2 trivial
      go_wp2
      go_ret
      exact ⟨rfl, HB.out⟩
    · have hD := Lib.hid (hbT hokd); clear hokd
      have hxl : Hid (xs.length = D.1.length) := by rw [hxs.out, ssL_pos hD.out, fL_len]; rfl
      have hxg : Hid (∀ k (hk : k < xs.length), xs[k] = ((cls D k : Nat) : Int)) := fun k hk => by
        have e : xs = fL D (cls D) := hxs.out.trans (ssL_pos hD.out)
        subst e
        exact fL_get D (cls D) (by rw [fL_len] at hk; exact hk)
      have hcell : Hid (∀ k, k < D.1.length → ∃ b off, av = some ⟨b, off, none⟩ ∧ w5.cell? ⟨b, off + k, none⟩ = some (.int .i64 ((cls D k : Nat) : Int))) := fun k hk => by
        have hk' : k < xs.length := by rw [hxl.out]; exact hk
        obtain ⟨b, off, e, c⟩ := hv2.out.at hk'
        exact ⟨b, off, e, by rw [← hxg.out k hk']; exact c⟩
      have hn40 := hD.out.1.2
      have hE : Hid (D.2.length = D.1.length) := hD.out.2.1
      rw [hxl.out]
      clear hv2 hxg hnv
      go_wp2_with fail
      go_loopw [5] (fun i wr => ∃ k q : Nat, k ≤ D.1.length ∧ i = .int .i64 k ∧ wr = w5.drewN q) (fun i _ => D.1.length - (intOf i).toNat)
      case atStart => exact ⟨0, 0, by omega, rfl, rfl⟩
      case round =>
        obtain ⟨k, q, hk, rfl, rfl⟩ := hrel
        have zD0 := XD.out.c0
        have zD1 := XD.out.c1
        by_cases hlt : k < D.1.length
        · obtain ⟨bx, ox, rfl, hck⟩ := hcell.out k hlt
          have hmle := cls_le D k
          have hmlt : cls D k < D.1.length := by omega
          obtain ⟨bx', ox', ex, hcm⟩ := hcell.out (cls D k) hmlt
          cases ex
          rw [cls_idem] at hcm
          obtain ⟨be, oe, rfl, hem⟩ := XD.out.r.mark hD.out hmlt
          obtain ⟨be', oe', ex, hek⟩ := XD.out.r.mark hD.out hlt
          cases ex
          rw [cls_de] at hem
          have hdn := Lib.hid (fun c (hc : c < 3) => cls_dn (D := D) (k := k) hD.out hc)
          have HD := Lib.hid (fun c (hc : c < 3) => XD.out.r.step hD.out hmlt hc)
          have HK := Lib.hid (fun c (hc : c < 3) => XD.out.r.step hD.out hlt hc)
          generalize cls D k = m at *
          generalize de D k = ee at *
          have hee := bneSelf ee
          have hmm : ((m : Int) != (m : Int)) = false := by simp
          have hmkI : (m : Int) ≤ (k : Int) := by omega
          have hmI : (m : Int) < (D.1.length : Int) := by omega
          have hkI : (k : Int) < (D.1.length : Int) := by omega
          have hmE : (m : Int) < (D.2.length : Int) := by rw [hE.out]; omega
          have hkE : (k : Int) < (D.2.length : Int) := by rw [hE.out]; omega
          have hmE' : m < D.2.length := by rw [hE.out]; omega
          have hkE' : k < D.2.length := by rw [hE.out]; omega
          go_wp2_with fail
          go_quiet (fail)
          go_wp2_with fail
          go_loopw [7] (fun i wr => ∃ c q : Nat, c ≤ 3 ∧ i = .int .i64 c ∧ wr = w5.drewN q) (fun i _ => 3 - (intOf i).toNat)
          case atStart => exact ⟨0, _, by omega, rfl, World.drewN_drewN _ _ _⟩
          case round =>
            obtain ⟨c, q2, hc3, rfl, rfl⟩ := hrel
            by_cases hc : c < 3
            · obtain ⟨b1, o1, r1, p1, q1, e1, h11, h12, h13⟩ := HD.out c hc
              cases e1
              obtain ⟨b2, o2, r2, p2, q2', e2, h21, h22, h23⟩ := HK.out c hc
              cases e2
              obtain ⟨by1, oy1, ey1, hy1⟩ := hcell.out _ h13
              cases ey1
              obtain ⟨by2, oy2, ey2, hy2⟩ := hcell.out _ h23
              cases ey2
              rw [hdn.out c hc] at hy1
              generalize dn D m c = s1 at *
              generalize dn D k c = s2 at *
              generalize cls D s2 = ff at *
              have hff : ((ff : Int) != (ff : Int)) = false := by simp
              have hcI : (c : Int) < 3 := by omega
              have hs1I : (s1 : Int) < (D.1.length : Int) := by omega
              have hs2I : (s2 : Int) < (D.1.length : Int) := by omega
              go_wp2_with fail
              go_quiet (fail)
              go_wp2
              go_roundw
              case rel => exact ⟨c + 1, _, by omega, by go_num, rfl⟩
              case measure => simp [intOf]; omega
            · obtain rfl : c = 3 := by omega
              go_wp2
              go_roundw
              case rel => exact ⟨k + 1, _, by omega, by go_num, rfl⟩
              case measure => simp [intOf]; omega
        · obtain rfl : k = D.1.length := by omega
          go_wp2
          go_ret
          exact ⟨rfl, belDrewN HB.out _⟩
end Go.Proofs.Ytebcnamfpajneaa.fnSameStates
