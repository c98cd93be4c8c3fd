/- FnLetterPlaces answers true: the walk. -/
import Derived.Test.YtcbhfopabgiiiaaExd
import Derived.Test.YtcbhfopabgiiiaaLpl
import Derived.Test.YtcbhfopabgiiiaaGC
import Derived.Deep.RegionHeld3
set_option linter.unusedSimpArgs false
set_option linter.unusedVariables false
set_option linter.unusedSectionVars false
namespace Go.Proofs.Ytcbhfopabgiiiaa.fnLetterPlaces
open Go.RowKit
set_option maxRecDepth 100000
theorem lpk_pre (e : List (Int × Int)) {k : Nat} : ∀ {m : Nat}, k ≤ m → m ≤ e.length → ∃ t, lpk e m = lpk e k ++ t := by
  intro m h
  induction m with
  | zero =>
    intro _
    obtain rfl : k = 0 := by omega
    exact ⟨[], by simp⟩
  | succ m ih =>
    intro hm
    rcases Nat.lt_or_ge m k with h1 | h1
    · obtain rfl : k = m + 1 := by omega
      exact ⟨[], by simp⟩
    · obtain ⟨t, ht⟩ := ih h1 (by omega)
      rw [lpk_step e (show m < e.length by omega), ht]
      split
      · exact ⟨t ++ [(m : Int)], by rw [List.append_assoc]⟩
      · exact ⟨t, rfl⟩
theorem lp_hit {e : List (Int × Int)} {k : Nat} (hk : k < e.length) (h3 : e[k].1 = 3) : ∃ h : (lpk e k).length < (lpk e e.length).length, (lpk e e.length)[(lpk e k).length] = (k : Int) ∧ (lpk e (k + 1)).length = (lpk e k).length + 1 := by
  have hst := lpk_step e hk
  rw [if_pos h3] at hst
  obtain ⟨t, ht⟩ := lpk_pre e (k := k + 1) (m := e.length) hk (Nat.le_refl _)
  rw [hst] at ht
  have hlen : (lpk e k).length < (lpk e e.length).length := by rw [ht]; simp
  refine ⟨hlen, ?_, by rw [hst]; simp⟩
  have : (lpk e e.length)[(lpk e k).length]? = some (k : Int) := by rw [ht, List.append_assoc, List.getElem?_append_right (Nat.le_refl _)]; simp
  rw [List.getElem?_eq_getElem hlen] at this
  injection this
set_option maxHeartbeats 2000000 in
theorem walk (w : World) (v : Value) (bs : List UInt8) (h : Bytes (fun _ => True) w v bs) :
    Calls Try.prog 9 #[v] w (Yes w) := by
  obtain ⟨a, cap, rfl, hn⟩ := h.shape
  have H := Lib.hid h; clear h
  by_cases hl : 1048576 < bs.length
  · go_enter Try.func9, Try.ntmps9
    go_wp2
    go_ret
    exact ⟨rfl, Below.refl _ _⟩
  · go_enter Try.func9, Try.ntmps9
    go_wp2_with fail
    refine (DrawLetterPlaces_c _ _ _ H.out).mono ?_
    rintro e w1 ⟨v1, xs, rfl, hx, hb1, hp1⟩
    clear H hn hl
    obtain ⟨a1, c1, rfl, _⟩ := hp1.out.shape
    have HB := Lib.hid hb1
    clear hb1
    go_wp2_with fail
    refine (LetterPlaces_c _ xs w1 hp1.out).mono ?_
    rintro e w2 ⟨y, rfl, hb, hy⟩
    obtain ⟨L, hL⟩ : ∃ L, L = lpv xs := ⟨_, rfl⟩
    replace hL := Lib.hid hL
    rw [← hL.out] at hy
    obtain ⟨ay, cy, rfl, _⟩ := hy.out.shape
    have hp2 := Lib.hid (hp1.out.stay (kpB hb))
    replace HB := Lib.hid (HB.out.trans (hb.mono HB.out.size))
    clear hb hp1
    go_wp2_with fail
    refine (sLetterPlaces_c _ xs w2 hp2.out (by omega)).mono ?_
    rintro e w3 ⟨z, rfl, hb, hz⟩
    rw [← hL.out] at hz
    obtain ⟨az, cz, rfl, _⟩ := hz.out.shape
    have hp3 := Lib.hid (hp2.out.stay (kpB hb))
    have hy3 := Lib.hid (hy.out.stay hb)
    replace HB := Lib.hid (HB.out.trans (hb.mono HB.out.size))
    clear hb hp2 hy
    go_wp2_with fail
    refine (sameInts_c _ _ L L w3 hy3.out.rd hz.out.rd).mono ?_
    rintro e w4 ⟨b4, rfl, hb, hh⟩
    obtain rfl : b4 = true := hh.out.2 rfl
    have hp4 := Lib.hid (hp3.out.stay (kpB hb))
    have hy4 := Lib.hid (hy3.out.stay hb)
    replace HB := Lib.hid (HB.out.trans (hb.mono HB.out.size))
    clear hb hp3 hy3 hz hh
    go_wp2_with fail
    refine (sExprValid_c _ xs w4 hp4.out (by omega)).mono ?_
    rintro e w5 ⟨ok, rfl, hb, hok⟩
    have hp5 := Lib.hid (hp4.out.stay (kpB hb))
    have hy5 := Lib.hid ((hy4.out.stay hb).rd)
    replace HB := Lib.hid (HB.out.trans (hb.mono HB.out.size))
    clear hb hp4 hy4
    cases ok
    · have hL2 := hL.out
      rw [lpv_no (hbF hok)] at hL2
      subst hL2
      go_wp2_with fail
      refine (alive_c _).mono ?_
      rintro e w9 ⟨b9, rfl, rfl, hb9⟩
      obtain rfl : b9 = true := hb9.out.2 trivial
      go_wp2
      go_ret
      exact ⟨rfl, HB.out⟩
    · have HL : Hid (L = lpk xs xs.length) := Lib.hid (by have h := hL.out; rwa [lpv_yes (hbT hok)] at h)
      clear hok
      go_wp2_with fail
      go_loopw [5, 6] (fun a i wr => ∃ k : Nat, k ≤ xs.length ∧ a = .int .i64 (lpk xs k).length ∧ i = .int .i64 k ∧ wr = w5) (fun _ i _ => xs.length - (intOf i).toNat)
      case atStart => exact ⟨0, by omega, rfl, rfl, rfl⟩
      case round =>
        obtain ⟨k, hk, rfl, rfl, rfl⟩ := hrel
        have hml := lpk_len xs k
        by_cases hlt : k < xs.length
        · have hkI : (k : Int) < (xs.length : Int) := by omega
          obtain ⟨ba, oa, rfl, ha0, ha1⟩ := hp5.out.at hlt
          by_cases h3 : xs[k].1 = 3
          · obtain ⟨hlen, hget, hnx⟩ := lp_hit hlt h3
            rw [← HL.out] at hlen
            obtain ⟨bb, ob, rfl, hc⟩ := hy5.out.at hlen
            have hget2 : L[(lpk xs k).length] = (k : Int) := by simpa only [HL.out] using hget
            rw [hget2] at hc
            rw [h3] at ha0
            have Hnx := Lib.hid hnx
            have hlenI : ((lpk xs k).length : Int) < (L.length : Int) := by omega
            have hlend : decide ((L.length : Int) ≤ ((lpk xs k).length : Int)) = false := by simp; omega
            have hkk : ((k : Int) != (k : Int)) = false := by simp
            clear hnx hget hget2 h3 ha1 hL
            obtain ⟨m, hm⟩ : ∃ m, m = (lpk xs k).length := ⟨_, rfl⟩
            rw [← hm] at hc hlenI hlend hml hlen Hnx ⊢
            replace hm := Lib.hid hm
            go_wp2
            go_roundw
            case rel => exact ⟨k + 1, by omega, by rw [Hnx.out]; go_num, by go_num, trivial⟩
            case measure => simp [intOf]; omega
          · have hst := lpk_step xs hlt
            rw [if_neg h3] at hst
            have h3b : (xs[k].1 == 3) = false := by simpa using h3
            generalize xs[k].1 = x at *
            generalize xs[k].2 = x2 at *
            have Hst := Lib.hid hst
            clear hst h3
            go_wp2
            go_roundw
            case rel => exact ⟨k + 1, by omega, by rw [Hst.out], by go_num, trivial⟩
            case measure => simp [intOf]; omega
        · obtain rfl : k = xs.length := by omega
          rw [← HL.out]
          go_wp2
          go_ret
          exact ⟨rfl, HB.out⟩
end Go.Proofs.Ytcbhfopabgiiiaa.fnLetterPlaces
