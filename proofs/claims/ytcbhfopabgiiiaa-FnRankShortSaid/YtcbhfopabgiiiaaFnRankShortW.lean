/- FnRankShort answers true: the walk. -/
import Derived.Test.YtcbhfopabgiiiaaFin
import Derived.Test.YtcbhfopabgiiiaaGG
import Derived.Test.YtcbhfopabgiiiaaGM
import Derived.Deep.RegionHeld3
set_option linter.unusedSimpArgs false
set_option linter.unusedVariables false
set_option linter.unusedSectionVars false
namespace Go.Proofs.Ytcbhfopabgiiiaa.fnRankShort
open Go.RowKit
set_option maxRecDepth 100000
def asN : Nat → ByteArray
  | 0 => ByteArray.empty
  | k + 1 => asN k ++ ⟨#[97]⟩
theorem asN_size : ∀ k, (asN k).size = k
  | 0 => rfl
  | k + 1 => by
    show (asN k ++ ⟨#[97]⟩ : ByteArray).size = _
    rw [ByteArray.size_append, asN_size k]
    rfl
theorem asN_get : ∀ k i (h : i < (asN k).size), (asN k)[i] = 97
  | 0, i, h => by rw [asN_size] at h; omega
  | k + 1, i, h => by
    have hk := asN_size k
    rcases Nat.lt_or_ge i k with h1 | h1
    · have : (asN (k + 1))[i] = (asN k)[i]'(by omega) := ByteArray.getElem_append_left (by omega)
      rw [this]; exact asN_get k i _
    · rw [asN_size] at h
      obtain rfl : i = k := by omega
      have : (asN (i + 1))[i]'(by rw [asN_size]; omega) = (⟨#[97]⟩ : ByteArray)[i - (asN i).size]'(by rw [asN_size]; show i - i < 1; omega) := ByteArray.getElem_append_right (by omega)
      rw [this]
      simp only [asN_size, Nat.sub_self]
      rfl
theorem asN_let (k : Nat) : letS (asN k) := fun j h => by rw [asN_get k j h]; unfold letB; decide
theorem asN_ltr (k i : Nat) : ltr (asN k) i = 0 := by
  unfold ltr
  split
  · rw [asN_get]; rfl
  · rfl
theorem rk_as {D : DfaD} (hD : okD D) {k : Nat} (hk : k ≤ 8) : rkv D (asN k) = ((rkA D k : Nat) : Int) := by
  have key : ∀ i, rkB D (asN k) i = rkA D k := by
    intro i
    induction i with
    | zero => show rkA D (asN k).size = _; rw [asN_size]
    | succ i ih =>
      show rkB D (asN k) i + cns D _ _ (ltr (asN k) i) = _
      rw [ih, asN_ltr]
      rfl
  rw [rkv_yes hD ⟨asN_let k, by rw [asN_size]; exact hk⟩, key]
set_option maxHeartbeats 2000000 in
theorem walk (w : World) (v : Value) (bs : List UInt8) (h : Bytes (fun _ => True) w v bs) :
    Calls Try.prog 4 #[v] w (Yes w) := by
  obtain ⟨a, cap, rfl, hn⟩ := h.shape
  have H := Lib.hid h; clear h
  by_cases hl : 1048576 < bs.length
  · go_enter Try.func4, Try.ntmps4
    go_wp2
    go_ret
    exact ⟨rfl, Below.refl _ _⟩
  · go_enter Try.func4, Try.ntmps4
    go_wp2_with fail
    refine (DrawRankWord_c _ _ _ H.out).mono ?_
    rintro e w1 ⟨D, v1, v2, s, rfl, hzs, hb1, hd1⟩
    clear H hn hl
    have hms : s.size ≤ maxLen := by unfold maxLen; omega
    obtain ⟨aD, cD, bD, dD, rfl, rfl, hnD, hmD⟩ := (hd1.out).shapes
    obtain ⟨W1, hW1, HN, XD⟩ := boxed hb1 (hd1.out)
    have HB := HN; clear HN
    have HW := Lib.hid hW1; clear hW1
    obtain ⟨r, hr⟩ : ∃ x, x = rkv D s := ⟨_, rfl⟩
    replace hr := Lib.hid hr
    have hrr : (r != r) = false := by simp
    have zD0 := XD.out.c0
    have zD1 := XD.out.c1
    rw [HW.out] at zD0 zD1
    go_wp2_with fail
    rw [← HW.out]; clear HW
    clear zD0 zD1
    have hS : Hid (∀ w', Below W1.heap.size W1 w' → w'.cell? ⟨w1.heap.size, 0, none⟩ = some (.slice aD D.1.length cD) ∧ w'.cell? ⟨w1.heap.size, 1, none⟩ = some (.slice bD D.2.length dD)) := fun w' hb => ⟨(XD.out.stay hb).c0, (XD.out.stay hb).c1⟩
    have hb0 := (Below.refl W1.heap.size W1).drew
    go_region_held3 (fun w' => w'.cell? ⟨w1.heap.size, 0, none⟩ = some (.slice aD D.1.length cD) ∧ w'.cell? ⟨w1.heap.size, 1, none⟩ = some (.slice bD D.2.length dD))
      (exact hS.out _ (by assumption))
      (first
        | (go_at_call 24; refine ((RankWord_c (.slice aD D.1.length cD) (.slice bD D.2.length dD) D s _ (XD.out.stay (by assumption)).r hms)).mono ?_; rintro e p5 ⟨rfl, hb5⟩; have hc0 := belUp (w := W1) (by first | assumption | exact belUp (by assumption) (belAlloc _ _)) hb5; rw [← hr.out])
        | (go_at_call 25; refine ((sRankWord_c (.slice aD D.1.length cD) (.slice bD D.2.length dD) D s _ (XD.out.stay (by assumption)).r hms)).mono ?_; rintro e p5 ⟨rfl, hb5⟩; have hc0 := belUp (w := W1) (by first | assumption | exact belUp (by assumption) (belAlloc _ _)) hb5; rw [← hr.out]))
    all_goals (
      replace XD := Lib.hid (XD.out.stay hc0)
      replace HB := Lib.hid (belUp HB.out (hc0))
      clear hS hb0 hb5 hc0
      have zD0 := XD.out.c0
      have zD1 := XD.out.c1
      go_wp2_with fail
      clear zD0 zD1
      refine (sDfaValid_c (.slice aD D.1.length cD) (.slice bD D.2.length dD) D p5 XD.out.r).mono ?_
      rintro e w2 ⟨okd, rfl, hb, hokd⟩
      replace XD := Lib.hid (XD.out.stay hb)
      replace HB := Lib.hid (belUp HB.out (hb))
      clear hb
      cases okd
      · skip
        go_wp2_with fail
        refine (alive_c _).mono ?_
        rintro e w9 ⟨b9, rfl, rfl, hb9⟩
        obtain rfl : b9 = true := hb9.out.2 trivial
        go_wp2
        go_ret
        exact ⟨rfl, HB.out⟩
      · have hy := Lib.hid (hbT hokd); clear hokd
        go_wp2_with fail
        go_loopw [5, 6, 7] (fun z m i wr => ∃ k : Nat, k ≤ 9 ∧ z = .string (asN k) ∧ m = .int .i64 ((rkA D k : Nat) : Int) ∧ i = .int .i64 k ∧ Hid (Below w2.heap.size w2 wr)) (fun _ _ i _ => 9 - (intOf i).toNat)
        case atStart => exact ⟨0, by omega, rfl, rfl, rfl, Lib.hid (Below.refl _ _)⟩
        case round =>
          obtain ⟨k, hk, rfl, rfl, rfl, hbr⟩ := hrel
          replace XD := Lib.hid (XD.out.stay hbr.out)
          replace HB := Lib.hid (belUp HB.out (hbr.out))
          by_cases hlt : k ≤ 8
          · have hkI : (k : Int) ≤ 8 := by omega
            have hsz := asN_size k
            have hml : (asN k).size ≤ maxLen := by unfold maxLen; omega
            have hz9 : (asN k).size ≤ 8 := by omega
            have hbd := rkA_bd D (k + 1) (by omega)
            have hcb := cnt_bd D (show k ≤ 30 by omega) 0
            have hrk := Lib.hid (rk_as hy.out hlt)
            have hcw : Hid (cwv D (k : Int) = ((cnt D k 0 : Nat) : Int)) := cwv_yes hy.out (by omega)
            have hst : Hid (rkA D (k + 1) = rkA D k + cnt D k 0) := rfl
            have hss : Hid (asN (k + 1) = asN k ++ ⟨#[97]⟩) := rfl
            rw [hst.out] at hbd
            clear hsz
            obtain ⟨z, hz⟩ : ∃ z, z = asN k := ⟨_, rfl⟩
            rw [← hz] at hml hrk hss hz9 ⊢
            replace hz := Lib.hid hz
            generalize rkA D k = m at *
            generalize cnt D k 0 = c at *
            have hmm : ((m : Int) != (m : Int)) = false := by simp
            have zD0 := XD.out.c0
            have zD1 := XD.out.c1
            go_wp2_with fail
            clear zD0 zD1
            refine (RankWord_c (.slice aD D.1.length cD) (.slice bD D.2.length dD) D z wr XD.out.r hml).mono ?_
            rintro e w9 ⟨rfl, hb⟩
            rw [hrk.out]
            have hbr2 := Lib.hid (belUp hbr.out hb)
            replace XD := Lib.hid (XD.out.stay hb)
            replace HB := Lib.hid (belUp HB.out (hb))
            clear hb
            have zD0 := XD.out.c0
            have zD1 := XD.out.c1
            go_wp2_with fail
            clear zD0 zD1
            refine (CountWords_c (.slice aD D.1.length cD) (.slice bD D.2.length dD) D k w9 XD.out.r).mono ?_
            rintro e wa ⟨rfl, hb⟩
            rw [hcw.out]
            have hbr3 := Lib.hid (belUp hbr2.out hb)
            clear hb
            have hmc : -9223372036854775808 ≤ (m : Int) + (c : Int) ∧ (m : Int) + (c : Int) ≤ 9223372036854775807 := by omega
            go_wp2
            go_roundw
            case rel => exact ⟨k + 1, by omega, by rw [hss.out], by rw [hst.out]; rfl, by go_num, hbr3⟩
            case measure => simp [intOf]; omega
          · obtain rfl : k = 9 := by omega
            go_wp2
            go_ret
            exact ⟨rfl, HB.out⟩)
end Go.Proofs.Ytcbhfopabgiiiaa.fnRankShort
