/- FnWordExpr answers true: the walk, and the law of the words' expressions. -/
import Derived.Deep.RegionHeld3
import Derived.Test.YtbcjhiponbfbnaaLwd
import Derived.Test.YtbcjhiponbfbnaaWss
import Derived.Test.YtbcjhiponbfbnaaSms
import Derived.Test.YtbcjhiponbfbnaaAcc
import Derived.Test.YtbcjhiponbfbnaaExt
set_option linter.unusedSimpArgs false
set_option linter.unusedVariables false
set_option linter.unusedSectionVars false
namespace Go.Proofs.Ytbcjhiponbfbnaa.fnWordExpr
open Go.RowKit
set_option maxRecDepth 100000
/-- The expression of a word, from its last letter on. -/
def weR : List UInt8 → Re
  | [] => .empty
  | [c] => .letter ((c.toNat : Int) - 97)
  | c :: r => .join (weR r) (.letter ((c.toNat : Int) - 97))
theorem weR_cons (c : UInt8) {r : List UInt8} (h : r ≠ []) : weR (c :: r) = .join (weR r) (.letter ((c.toNat : Int) - 97)) := by
  cases r with
  | nil => exact absurd rfl h
  | cons d r => rfl
def weT (l : List UInt8) : Re := weR l.reverse
theorem weT_snoc (l : List UInt8) (c : UInt8) (h : l ≠ []) : weT (l ++ [c]) = .join (weT l) (.letter ((c.toNat : Int) - 97)) := by
  unfold weT
  rw [List.reverse_append]
  exact weR_cons c (by simpa using h)
theorem weT_one (c : UInt8) : weT [c] = .letter ((c.toNat : Int) - 97) := rfl
theorem weT_flat (l : List UInt8) : l ≠ [] → (weT l).flat = weP l := by
  refine revInd (P := fun l => l ≠ [] → (weT l).flat = weP l) (fun h => absurd rfl h) ?_ l
  intro l c ih _
  by_cases hl : l = []
  · subst hl; rfl
  · rw [weT_snoc l c hl, weP_snoc l c hl, ← ih hl]; rfl
theorem weT_all (l : List UInt8) : (weT l).flat = weX l := by
  unfold weX
  split
  · rename_i h; subst h; rfl
  · rename_i h; exact weT_flat l h
theorem weT_wf (l : List UInt8) : (∀ c ∈ l, letB c) → (weT l).wf := by
  refine revInd (P := fun l => (∀ c ∈ l, letB c) → (weT l).wf) (fun _ => trivial) ?_ l
  intro l c ih h
  have hc := h c (by simp)
  have hw : (Re.letter ((c.toNat : Int) - 97)).wf := by unfold letB at hc; exact ⟨by omega, by omega⟩
  by_cases hl : l = []
  · subst hl; exact hw
  · rw [weT_snoc l c hl]; exact ⟨ih fun d hd => h d (by simp [hd]), hw⟩
theorem weT_lang (l : List UInt8) : ∀ w, (weT l).lang w ↔ w = l.map fun c => (c.toNat : Int) - 97 := by
  refine revInd (P := fun l => ∀ w, (weT l).lang w ↔ w = l.map fun c => (c.toNat : Int) - 97) (fun w => Iff.rfl) ?_ l
  intro l c ih w
  by_cases hl : l = []
  · subst hl; exact Iff.rfl
  · rw [weT_snoc l c hl]
    simp only [Re.lang, ih]
    constructor
    · rintro ⟨u, v, rfl, rfl, rfl⟩; simp
    · rintro rfl; exact ⟨l.map fun c => (c.toNat : Int) - 97, [(c.toNat : Int) - 97], by simp, rfl, rfl⟩
theorem weT_lvl (l : List UInt8) (h : l ≠ []) : 3 ≤ (weT l).lvl := by
  rcases (by cases hr : l.reverse with
    | nil => exact .inl (by simpa using hr)
    | cons c r => exact .inr ⟨c, r, rfl⟩ : l = [] ∨ ∃ c r, l.reverse = c :: r) with h0 | ⟨c, r, hr⟩
  · exact absurd h0 h
  · unfold weT; rw [hr]
    cases r with
    | nil => exact (by decide : 3 ≤ 6)
    | cons d r => exact Nat.le_refl 3
theorem weT_tx (l : List UInt8) : l ≠ [] → (∀ c ∈ l, letB c) → (weT l).tx = l := by
  refine revInd (P := fun l => l ≠ [] → (∀ c ∈ l, letB c) → (weT l).tx = l) (fun h => absurd rfl h) ?_ l
  intro l c ih _ h
  have hc := h c (by simp)
  have h1 : (Re.letter ((c.toNat : Int) - 97)).tx = [c] := by
    unfold letB at hc
    show [UInt8.ofNat (97 + ((c.toNat : Int) - 97).toNat)] = [c]
    rw [show 97 + ((c.toNat : Int) - 97).toNat = c.toNat by omega]
    simp
  by_cases hl : l = []
  · subst hl; exact h1
  · rw [weT_snoc l c hl]
    show brk ((weT l).lvl < 3) (weT l).tx ++ brk (Re.lvl (.letter ((c.toNat : Int) - 97)) < 4) (Re.letter ((c.toNat : Int) - 97)).tx = l ++ [c]
    have h3 := weT_lvl l hl
    rw [h1, ih hl fun d hd => h d (by simp [hd])]
    unfold brk
    rw [if_neg (by simp; omega), if_neg (by simp [Re.lvl])]
theorem ltrs_inj {s t : ByteArray} (h : ltrs s = ltrs t) : s = t := by
  unfold ltrs at h
  have h2 : s.data.toList = t.data.toList := by
    refine List.map_inj_right ?_ |>.1 h
    intro x y hxy
    exact UInt8.toNat_inj.1 (by omega)
  exact ByteArray.ext (Array.toList_inj.1 h2)
theorem strNe {z s : ByteArray} (h : ¬ z = s) : (z.toList == s.toList) = false := by
  rw [beq_eq_false_iff_ne, ByteArray.toList_eq, ByteArray.toList_eq]
  exact fun e => h (ByteArray.ext (Array.toList_inj.1 e))
theorem weX_len60 {s : ByteArray} (h : s.size ≤ 8) : (weX s.data.toList).length ≤ 60 := by
  have := weX_len s.data.toList
  have h2 : s.data.toList.length = s.size := by simp
  omega
set_option maxHeartbeats 2000000 in
theorem walk (w : World) (v : Value) (bs : List UInt8) (h : Bytes (fun _ => True) w v bs) (v2 : Value) (bs2 : List UInt8) (h2 : Bytes (fun _ => True) w v2 bs2) :
    Calls Try.prog 5 #[v, v2] w (Yes w) := by
  obtain ⟨a, cap, rfl, hn⟩ := h.shape
  obtain ⟨a2, cap2, rfl, hn2⟩ := h2.shape
  have H := Lib.hid h; have H2 := Lib.hid h2; clear h h2
  by_cases hl : 1048576 < bs.length
  · go_enter Try.func5, Try.ntmps5
    go_wp2
    go_ret
    exact ⟨rfl, Below.refl _ _⟩
  by_cases hl2 : 1048576 < bs2.length
  · go_enter Try.func5, Try.ntmps5
    go_wp2
    go_ret
    exact ⟨rfl, Below.refl _ _⟩
  go_enter Try.func5, Try.ntmps5
  go_wp2_with fail
  refine (DrawWordExpr_c _ _ _ H.out).mono ?_
  rintro e w1 ⟨s, rfl, hs9, hb1⟩
  have HB1 := Lib.hid hb1
  have HC1 := Lib.hid (Bytes.stay H2.out (kpB hb1))
  have hsm : s.size ≤ maxLen := by unfold maxLen; omega
  clear H H2 hb1 hn hn2
  by_cases hv : letS s ∧ s.size ≤ 8
  · have HV := Lib.hid hv
    have hT := weT_all s.data.toList
    have hwf : (weT s.data.toList).wf := weT_wf _ (fun c hc => by
      obtain ⟨i, hi, rfl⟩ := List.getElem_of_mem hc
      exact hv.1 i hi)
    have HWF := Lib.hid hwf
    have hlen := weX_len60 hv.2
    have HLen := Lib.hid hlen
    have hlet : ∀ c ∈ s.data.toList, letB c := fun c hc => by
      obtain ⟨i, hi, rfl⟩ := List.getElem_of_mem hc
      exact hv.1 i hi
    have hnil : 0 < s.size → s.data.toList ≠ [] := fun hp e => by
      have h1 : s.data.toList.length = s.size := by simp
      rw [e] at h1; simp at h1; omega
    have HTx : Hid (0 < s.size → (weT s.data.toList).tx = s.data.toList) := Lib.hid (fun hp => weT_tx _ (hnil hp) hlet)
    obtain ⟨t, ht⟩ : ∃ t, t = weT s.data.toList := ⟨_, rfl⟩
    have HLang : Hid (∀ w, t.lang w ↔ w = ltrs s) := Lib.hid (fun w => by rw [ht]; exact weT_lang _ w)
    rw [← ht] at hT HWF HTx
    have HX := Lib.hid hT
    have HL60 : Hid (t.len ≤ 60) := Lib.hid (by unfold Re.len; rw [hT]; exact hlen)
    have HOK : Hid (ExprOk t.flat) := Lib.hid ((exprOk_iff _).2 ⟨t, HWF.out, rfl, HL60.out⟩)
    clear hv hT hwf hlen ht HLen hlet hnil
    go_wp2_with fail
    refine (WordExpr_c s w1 HV.out).mono ?_
    rintro e w2 ⟨u, rfl, hb2, ho2⟩
    have hP2 := Lib.hid (show PR w2 u t from OwnP.pr (t := t) (by rw [HX.out]; exact ho2.out) HWF.out)
    obtain ⟨a3, c3, rfl, _⟩ := hP2.out.shape
    have HB2 := Lib.hid (HB1.out.trans (hb2.mono HB1.out.size))
    have HC2 := Lib.hid (HC1.out.stay (kpB hb2))
    clear ho2 hb2
    go_wp2_with fail
    refine (sWordExpr_c s w2 hsm HV.out).mono ?_
    rintro e w3 ⟨u2, rfl, hb3, ho3⟩
    have hP3 := Lib.hid (hP2.out.stay hb3)
    obtain ⟨a4, c4, rfl, _⟩ := ho3.out.rd.shape
    have HO3 := Lib.hid ho3.out.rd
    have HB3 := Lib.hid (HB2.out.trans (hb3.mono HB2.out.size))
    have HC3 := Lib.hid (HC2.out.stay (kpB hb3))
    clear ho3 hb3 hP2
    go_wp2_with fail
    refine (sameParts_c _ _ _ _ w3 hP3.out.2 HO3.out).mono ?_
    rintro e w4 ⟨b4, rfl, hb4, hv4⟩
    obtain rfl : b4 = true := hv4.out.2 HX.out
    have hP4 := Lib.hid (hP3.out.stay hb4)
    have HB4 := Lib.hid (HB3.out.trans (hb4.mono HB3.out.size))
    have HC4 := Lib.hid (HC3.out.stay (kpB hb4))
    clear hb4 hv4 hP3 HO3
    go_wp2_with fail
    refine (sWordValid_c s w4 hsm).mono ?_
    rintro e w5 ⟨b5, rfl, rfl, hv5⟩
    obtain rfl : b5 = true := hv5.out.2 HV.out
    clear hv5
    go_wp2_with fail
    refine (DrawWordRank_c _ _ _ HC4.out).mono ?_
    rintro e w5 ⟨z, rfl, hz9, hb5⟩
    have hP5 := Lib.hid (hP4.out.stay hb5)
    have HB5 := Lib.hid (HB4.out.trans (hb5.mono HB4.out.size))
    have hzm : z.size ≤ maxLen := by unfold maxLen; omega
    clear hb5 hP4 HC4
    go_wp2_with fail
    refine (ExprValid_c _ t.flat w5 hP5.out.2).mono ?_
    rintro e w6 ⟨b6, rfl, hb6, hv6⟩
    obtain rfl : b6 = true := hv6.out.2 HOK.out
    have hP6 := Lib.hid (hP5.out.stay hb6)
    have HB6 := Lib.hid (HB5.out.trans (hb6.mono HB5.out.size))
    clear hb6 hv6 hP5
    go_wp2_with fail
    refine (ExprAccepts_c _ t.flat s hsm w6 hP6.out.2).mono ?_
    rintro e w7 ⟨b7, rfl, hb7, hv7⟩
    obtain rfl : b7 = true := hv7.out.2 ((acc_iff HWF.out ⟨HOK.out, HV.out⟩).2 ((HLang.out _).2 rfl))
    have hP7 := Lib.hid (hP6.out.stay hb7)
    have HB7 := Lib.hid (HB6.out.trans (hb7.mono HB6.out.size))
    clear hb7 hv7 hP6
    go_wp2_with fail
    refine (ExprAccepts_c _ t.flat z hzm w7 hP7.out.2).mono ?_
    rintro e w8 ⟨b8, rfl, hb8, hv8⟩
    have hP8 := Lib.hid (hP7.out.stay hb8)
    have HB8 := Lib.hid (HB7.out.trans (hb8.mono HB7.out.size))
    have HE8 : Hid (b8 = true ↔ z = s) := Lib.hid (hv8.out.trans ⟨fun hA => by
      have h1 := (HLang.out _).1 ((acc_iff HWF.out hA.1).1 hA)
      exact ltrs_inj h1, fun e => by subst e; exact (acc_iff HWF.out ⟨HOK.out, HV.out⟩).2 ((HLang.out _).2 rfl)⟩)
    clear hb8 hv8 hP7
    have HTX := Lib.hid HTx.out
    rcases Nat.eq_zero_or_pos s.size with h0 | hpos
    · have hse := strNil h0
      by_cases hzs : z = s
      · obtain rfl : b8 = true := HE8.out.2 hzs
        subst hzs
        clear HE8
        go_wp2
        go_ret
        exact ⟨rfl, HB8.out⟩
      · obtain rfl : b8 = false := by cases b8 with | false => rfl | true => exact absurd (HE8.out.1 rfl) hzs
        have hzb := strNe hzs
        clear HE8
        go_wp2
        go_ret
        exact ⟨rfl, HB8.out⟩
    · have hse := strCons hpos
      have htx := HTX.out hpos
      by_cases hzs : z = s
      · obtain rfl : b8 = true := HE8.out.2 hzs
        subst hzs
        clear HE8
        go_wp2_with fail
        refine (ExprText_c t HL60.out _ w8 hP8.out).mono ?_
        rintro e w9 ⟨x, rfl, hb9, hx⟩
        obtain rfl : x = z := ByteArray.ext (Array.toList_inj.1 (hx.out.trans htx))
        clear hx
        go_wp2
        go_ret
        exact ⟨rfl, HB8.out.trans (hb9.mono HB8.out.size)⟩
      · obtain rfl : b8 = false := by cases b8 with | false => rfl | true => exact absurd (HE8.out.1 rfl) hzs
        have hzb := strNe hzs
        clear HE8
        go_wp2_with fail
        refine (ExprText_c t HL60.out _ w8 hP8.out).mono ?_
        rintro e w9 ⟨x, rfl, hb9, hx⟩
        obtain rfl : x = s := ByteArray.ext (Array.toList_inj.1 (hx.out.trans htx))
        clear hx
        go_wp2
        go_ret
        exact ⟨rfl, HB8.out.trans (hb9.mono HB8.out.size)⟩
  · have HV := Lib.hid hv; clear hv
    go_wp2_with fail
    refine (WordExpr_no s w1 hsm HV.out).mono ?_
    rintro e w2 ⟨u, rfl, hb2, ho2⟩
    have HP2 := Lib.hid ho2.out.rd
    obtain ⟨a3, c3, rfl, _⟩ := HP2.out.shape
    have HB2 := Lib.hid (HB1.out.trans (hb2.mono HB1.out.size))
    clear ho2 hb2 HC1
    go_wp2_with fail
    refine (sWordExpr_no s w2 hsm HV.out).mono ?_
    rintro e w3 ⟨u2, rfl, hb3, ho3⟩
    have HP3 := Lib.hid (Pairs.stay HP2.out (kpB hb3))
    obtain ⟨a4, c4, rfl, _⟩ := ho3.out.rd.shape
    have HO3 := Lib.hid ho3.out.rd
    have HB3 := Lib.hid (HB2.out.trans (hb3.mono HB2.out.size))
    clear ho3 hb3 HP2
    go_wp2_with fail
    refine (sameParts_c _ _ _ _ w3 HP3.out HO3.out).mono ?_
    rintro e w4 ⟨b4, rfl, hb4, hv4⟩
    obtain rfl : b4 = true := hv4.out.2 rfl
    have HB4 := Lib.hid (HB3.out.trans (hb4.mono HB3.out.size))
    clear hb4 hv4 HP3 HO3
    go_wp2_with fail
    refine (sWordValid_c s w4 hsm).mono ?_
    rintro e w5 ⟨b5, rfl, rfl, hv5⟩
    obtain rfl : b5 = false := by cases b5 with | false => rfl | true => exact absurd (hbT hv5) HV.out
    clear hv5
    go_wp2_with fail
    refine (alive_c w4).mono ?_
    rintro e w5 ⟨b6, rfl, rfl, hv6⟩
    obtain rfl : b6 = true := hv6.out.2 trivial
    clear hv6
    go_wp2
    go_ret
    exact ⟨rfl, HB4.out⟩
end Go.Proofs.Ytbcjhiponbfbnaa.fnWordExpr
