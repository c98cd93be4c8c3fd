/- FnDeriveWord answers true: the walk. -/
import Derived.Deep.RegionHeld3
import Derived.Test.YtbcjhiponbfbnaaGR
import Derived.Test.YtbcjhiponbfbnaaSms
import Derived.Test.YtbcjhiponbfbnaaNea
set_option linter.unusedSimpArgs false
set_option linter.unusedVariables false
set_option linter.unusedSectionVars false
namespace Go.Proofs.Ytbcjhiponbfbnaa.fnDeriveWord
open Go.RowKit
set_option maxRecDepth 100000
variable {S T : Nat → Prop}
set_option maxHeartbeats 400000 in
theorem HasEmpty_c (t : Re) (ht : t.wf) (hl : t.len ≤ 60) (v : Value) (w : World) (h : Pairs S w v t.flat) : Calls Try.prog 13 #[v] w (RBn w (t.nul = true)) := by
  obtain ⟨a, cap, rfl, hn⟩ := h.shape
  have hok : ExprOk t.flat := (exprOk_iff _).2 ⟨t, ht, rfl, hl⟩
  have H := Lib.hid h; have HT := Lib.hid ht; have HL := Lib.hid hl; have HO := Lib.hid hok
  clear h ht hl hok
  go_enter Try.func13, Try.ntmps13
  go_wp2_with fail
  refine (ExprValid_c _ t.flat w H.out).mono ?_
  rintro x w1 ⟨b1, rfl, hb1, hv⟩
  obtain rfl : b1 = true := hv.out.2 HO.out
  have H1 := Lib.hid (H.out.stay (kpB hb1))
  have HB := Lib.hid hb1
  clear hv hb1
  go_wp2_with fail
  refine (hasEmpty_c t HT.out HL.out _ w1 H1.out).mono ?_
  rintro x w2 ⟨rfl, hb2⟩
  have HB2 := Lib.hid (HB.out.trans (hb2.mono HB.out.size))
  clear hb2
  go_wp2
  go_ret
  exact ⟨_, rfl, HB2.out, Lib.hid Iff.rfl⟩
theorem same_ans {t u : Re} (ht : t.wf) (hl : t.len ≤ 60) {s : ByteArray} (hs : letS s ∧ s.size ≤ 8) (h : derW (ltrs s) t = some u) : u.nul = true ↔ Acc t.flat s := by
  rw [nul_lang, derW_lang h [], List.append_nil]
  exact (acc_iff ht ⟨(exprOk_iff _).2 ⟨t, ht, rfl, hl⟩, hs⟩).symm
set_option maxHeartbeats 2000000 in
theorem walk (w : World) (v : Value) (bs : List UInt8) (h : Bytes (fun _ => True) w v bs) :
    Calls Try.prog 3 #[v] w (Yes w) := by
  obtain ⟨a, cap, rfl, hn⟩ := h.shape
  have H := Lib.hid h; clear h
  by_cases hl : 1048576 < bs.length
  · go_enter Try.func3, Try.ntmps3
    go_wp2
    go_ret
    exact ⟨rfl, Below.refl _ _⟩
  go_enter Try.func3, Try.ntmps3
  go_wp2_with fail
  refine (DrawDeriveWord_c _ _ _ H.out).mono ?_
  rintro e w1 ⟨u0, xs, s, rfl, hx, hs9, hb1, hp1⟩
  obtain ⟨a1, c1, rfl, _⟩ := Pairs.shape hp1.out
  have HB1 := Lib.hid hb1
  have hsm : s.size ≤ maxLen := by unfold maxLen; omega
  clear H hn hl hb1
  have HD : Hid (∃ o : Option Re, Calls Try.prog 9 #[.slice a1 xs.length c1, .string s] w1 (REo w1 o) ∧
      (∀ w2, Below w1.heap.size w1 w2 → Calls Try.prog 10 #[.slice a1 xs.length c1, .string s] w2 (REs w2 o)) ∧
      (∀ u, o = some u → ∃ t : Re, t.wf ∧ t.len ≤ 60 ∧ u.wf ∧ u.len ≤ 60 ∧ xs = t.flat ∧ (letS s ∧ s.size ≤ 8) ∧ derW (ltrs s) t = some u)) := by
    by_cases hok : ExprOk xs ∧ letS s ∧ s.size ≤ 8
    · obtain ⟨t, ht, rfl, hl60⟩ := (exprOk_iff xs).1 hok.1
      exact ⟨_, DeriveWord_yes t ht hl60 s hok.2 _ w1 hp1.out, fun w2 hb => sDeriveWord_yes t ht hl60 s hok.2 _ w2 (PL0.stay hp1.out hb), fun u hu => ⟨t, ht, hl60, derW_wf hu ht, derW_len hu hl60, rfl, hok.2, hu⟩⟩
    · exact ⟨none, DeriveWord_no xs s hsm hok _ w1 hp1.out, fun w2 hb => sDeriveWord_no xs (by omega) s hsm hok _ w2 (PL0.stay hp1.out hb), fun u hu => by cases hu⟩
  obtain ⟨o, hD1, hD2, hD3⟩ := HD.out
  have HD1 := Lib.hid hD1; have HD2 := Lib.hid hD2; have HD3 := Lib.hid hD3
  clear hD1 hD2 hD3 HD
  go_wp2_with fail
  refine HD1.out.mono ?_
  rintro e w2 ⟨x, b, rfl, hb2, hbo, hxs, hxn⟩
  have HB2 := Lib.hid (HB1.out.trans (hb2.mono HB1.out.size))
  have HP2 := Lib.hid (PL0.stay hp1.out hb2)
  have HE2 := Lib.hid (HD2.out w2 hb2)
  clear hp1 hb2 HD1 HD2 HB1
  cases o with
  | none =>
    obtain rfl : b = false := hbo.out
    obtain rfl := hxn.out rfl
    clear hbo hxs hxn HD3
    go_wp2_with fail
    refine HE2.out.mono ?_
    rintro e w3 ⟨y, c, rfl, hb3, hco, hys, hyn⟩
    obtain rfl : c = false := hco.out
    have HY := Lib.hid (hyn.out rfl)
    obtain ⟨ay, cy, rfl, _⟩ := Pairs.shape HY.out
    have HB3 := Lib.hid (HB2.out.trans (hb3.mono HB2.out.size))
    have HX3 : Hid (PL0 w3 (.slice none 0 0) []) := Lib.hid ⟨none, 0, rfl, ⟨Nat.zero_le _, Nat.le_refl _, fun _ => rfl⟩, fun i hi => absurd hi (by simp [cells2])⟩
    clear hb3 hco hys hyn HB2 HP2 HE2
    go_wp2_with fail
    refine (sameParts_c _ _ [] [] w3 HX3.out HY.out).mono ?_
    rintro e w4 ⟨q, rfl, hb4, hq⟩
    obtain rfl : q = true := hq.out.2 rfl
    have HB4 := Lib.hid (HB3.out.trans (hb4.mono HB3.out.size))
    clear hq hb4
    go_wp2_with fail
    refine (alive_c w4).mono ?_
    rintro e w7 ⟨b7, rfl, rfl, hv7⟩
    obtain rfl : b7 = true := hv7.out.2 trivial
    clear hv7
    go_wp2
    go_ret
    exact ⟨rfl, HB4.out⟩
  | some u =>
    obtain rfl : b = true := hbo.out
    have HX := Lib.hid (hxs.out u rfl)
    obtain ⟨ax, cx, rfl, _⟩ := PR.shape HX.out
    clear hbo hxs hxn
    obtain ⟨t, ht, htl, hu, hul, rfl, hs8, hdw⟩ := HD3.out u rfl
    have HA := Lib.hid (same_ans ht htl hs8 hdw)
    have HDW := Lib.hid hdw; have HU := Lib.hid hu; have HUL := Lib.hid hul
    clear ht htl hs8 hdw hu hul HD3
    go_wp2_with fail
    refine HE2.out.mono ?_
    rintro e w3 ⟨y, c, rfl, hb3, hco, hys, hyn⟩
    obtain rfl : c = true := hco.out
    have HY := Lib.hid (hys.out u rfl)
    obtain ⟨ay, cy, rfl, _⟩ := PR.shape HY.out
    have HB3 := Lib.hid (HB2.out.trans (hb3.mono HB2.out.size))
    have HX3 := Lib.hid (HX.out.stay hb3)
    have HP3 := Lib.hid (PL0.stay HP2.out hb3)
    clear hb3 hco hys hyn HB2 HP2 HE2 HX
    go_wp2_with fail
    refine (sameParts_c _ _ u.flat u.flat w3 HX3.out.2 HY.out.2).mono ?_
    rintro e w4 ⟨q, rfl, hb4, hq⟩
    obtain rfl : q = true := hq.out.2 rfl
    have HB4 := Lib.hid (HB3.out.trans (hb4.mono HB3.out.size))
    have HX4 := Lib.hid (HX3.out.stay hb4)
    have HP4 := Lib.hid (PL0.stay HP3.out hb4)
    clear hq hb4 HX3 HP3 HB3 HY
    go_wp2_with fail
    refine (HasEmpty_c u HU.out HUL.out _ w4 HX4.out.2).mono ?_
    rintro e w5 ⟨q1, rfl, hb5, hq1⟩
    have HB5 := Lib.hid (HB4.out.trans (hb5.mono HB4.out.size))
    have HX5 := Lib.hid (HX4.out.stay hb5)
    have HP5 := Lib.hid (PL0.stay HP4.out hb5)
    clear hb5 HX4 HP4 HB4
    go_wp2_with fail
    refine (ExprAccepts_c _ t.flat s hsm w5 HP5.out).mono ?_
    rintro e w6 ⟨q2, rfl, hb6, hq2⟩
    obtain rfl : q1 = q2 := by
      have h1 := hq1.out; have h2 := hq2.out; have h3 := HA.out
      rw [h3, ← h2] at h1
      cases q1 <;> cases q2 <;> simp_all
    have HB6 := Lib.hid (HB5.out.trans (hb6.mono HB5.out.size))
    have HX6 := Lib.hid (HX5.out.stay hb6)
    have HP6 := Lib.hid (PL0.stay HP5.out hb6)
    have hqq : (q1 == q1) = true := by simp
    clear hb6 HX5 HP5 HB5 hq1 hq2 HA
    by_cases hs0 : s = ⟨#[]⟩
    · subst hs0
      have hut : u = t := by have := HDW.out; cases this; rfl
      have HUT := Lib.hid hut
      clear hut
      cases q1
      all_goals (
        go_wp2_with fail
        refine (sameParts_c _ _ u.flat t.flat w6 HX6.out.2 HP6.out).mono ?_
        rintro e w7 ⟨q, rfl, hb7, hq⟩
        obtain rfl : q = true := hq.out.2 (by rw [HUT.out])
        have HB7 := Lib.hid (HB6.out.trans (hb7.mono HB6.out.size))
        clear hq hb7
        go_wp2
        go_ret
        exact ⟨rfl, HB7.out⟩)
    · have k1 : (s.toList == (⟨#[]⟩ : ByteArray).toList) = false := by
        rw [beq_eq_false_iff_ne, ByteArray.toList_eq, ByteArray.toList_eq]
        exact fun e => hs0 (ByteArray.ext (Array.toList_inj.1 e))
      have k2 : (s.toList == []) = false := by
        have h0 : (⟨#[]⟩ : ByteArray).toList = [] := by rw [ByteArray.toList_eq]
        rw [h0] at k1
        exact k1
      cases q1
      all_goals (
        go_wp2
        go_ret
        exact ⟨rfl, HB6.out⟩)
end Go.Proofs.Ytbcjhiponbfbnaa.fnDeriveWord
