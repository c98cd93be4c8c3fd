/- FnReplaceAll answers true: the walk. -/
import Derived.Test.YtcbhfopabgiiiaaFi2
import Derived.Test.YtcbhfopabgiiiaaGG
import Derived.Test.YtcbhfopabgiiiaaTxa
import Derived.Test.YtcbhfopabgiiiaaRpl
import Derived.Deep.RegionHeld3
set_option linter.unusedSimpArgs false
set_option linter.unusedVariables false
set_option linter.unusedSectionVars false
namespace Go.Proofs.Ytcbhfopabgiiiaa.fnReplaceAll
open Go.RowKit
set_option maxRecDepth 100000
theorem asc_mem {n : Nat} : ∀ {l : List (Int × Int)} {a : Nat}, asc n a l → ∀ m ∈ l, 0 ≤ m.1 ∧ m.1 ≤ m.2 ∧ m.2 ≤ n
  | [], _, _, _, hm => absurd hm List.not_mem_nil
  | (p, q) :: t, a, h, m, hm => by
    rcases List.mem_cons.1 hm with rfl | hm
    · exact ⟨by have := h.1; simp only; omega, h.2.1, h.2.2.1⟩
    · exact asc_mem h.2.2.2 m hm
/-- What the matches add to the length. -/
def dsum (x : ByteArray) : List (Int × Int) → Int
  | [] => 0
  | (p, q) :: t => (x.size : Int) - (q - p) + dsum x t
theorem dsum_drop {x : ByteArray} {l : List (Int × Int)} {k : Nat} (h : k < l.length) : dsum x (l.drop k) = (x.size : Int) - (l[k].2 - l[k].1) + dsum x (l.drop (k + 1)) := by
  rw [List.drop_eq_getElem_cons h]
  rfl
theorem rp_size {s x : ByteArray} : ∀ {l : List (Int × Int)} {a : Nat} {o : ByteArray}, asc s.size a l → a ≤ s.size → ((rp s x l a o).size : Int) = o.size + ((s.size : Int) - a) + dsum x l
  | [], a, o, _, ha => by simp [rp, dsum, ByteArray.size_append, ByteArray.size_extract]; omega
  | (p, q) :: t, a, o, h, ha => by
    obtain ⟨h1, h2, h3, h4⟩ := h
    have ih := rp_size (x := x) (o := o ++ s.extract a p.toNat ++ x) h4 (by omega)
    show ((rp s x t q.toNat _).size : Int) = _
    rw [ih]
    simp only [dsum, ByteArray.size_append, ByteArray.size_extract]
    omega
theorem ra_fin {D : DfaD} {s x : ByteArray} (h1 : okD D) (h2 : letS s ∧ s.size ≤ 30) (h3 : letS x ∧ x.size ≤ 8) :
    ((repl D s x).size : Int) = s.size + dsum x (allv D s) ∧ (allv D s).length ≤ 31 ∧ (∀ m ∈ allv D s, 0 ≤ m.1 ∧ m.1 ≤ m.2 ∧ m.2 ≤ 30) ∧ (allv D s = [] → repl D s x = s) := by
  rw [repl_yes h1 h2 h3, allv_yes h1 h2]
  have ha := asc_alls D s (s.size + 1) 0 (by omega) (by omega)
  refine ⟨by rw [rp_size ha.1 (by omega)]; simp, by have := ha.2; omega, fun m hm => ?_, fun h => ?_⟩
  · have := asc_mem ha.1 m hm; omega
  · rw [h]
    show ByteArray.empty ++ s.extract 0 s.size = s
    simp
set_option maxHeartbeats 8000000 in
theorem walk (w : World) (v : Value) (bs : List UInt8) (h : Bytes (fun _ => True) w v bs) :
    Calls Try.prog 7 #[v] w (Yes w) := by
  obtain ⟨a, cap, rfl, hn⟩ := h.shape
  have H := Lib.hid h; clear h
  by_cases hl : 1048576 < bs.length
  · go_enter Try.func7, Try.ntmps7
    go_wp2
    go_ret
    exact ⟨rfl, Below.refl _ _⟩
  · go_enter Try.func7, Try.ntmps7
    go_wp2_with fail
    refine (DrawReplaceAll_c _ _ _ H.out).mono ?_
    rintro e w1 ⟨D, v1, v2, s, x, rfl, hzs, hzx, hb1, hd1⟩
    clear H hn hl
    have hms : s.size ≤ maxLen := by unfold maxLen; omega
    have hmx : x.size ≤ maxLen := by unfold maxLen; omega
    obtain ⟨aD, cD, bD, dD, rfl, rfl, hnD, hmD⟩ := (hd1.out).shapes
    obtain ⟨W1, hW1, HN, XD⟩ := boxed hb1 (hd1.out)
    have HB := HN; clear HN
    have HW := Lib.hid hW1; clear hW1
    obtain ⟨R, hR⟩ : ∃ R, R = repl D s x := ⟨_, rfl⟩
    replace hR := Lib.hid hR
    have zD0 := XD.out.c0
    have zD1 := XD.out.c1
    rw [HW.out] at zD0 zD1
    go_wp2_with fail
    rw [← HW.out]; clear HW
    clear zD0 zD1
    refine (ReplaceAll_c (.slice aD D.1.length cD) (.slice bD D.2.length dD) D s x W1 XD.out.r hms hmx).mono ?_
    rintro e w2 ⟨rfl, hb⟩
    rw [← hR.out]
    replace XD := Lib.hid (XD.out.stay hb)
    replace HB := Lib.hid (belUp HB.out (hb))
    clear hb
    have zD0 := XD.out.c0
    have zD1 := XD.out.c1
    go_wp2_with fail
    clear zD0 zD1
    refine (sReplaceAll_c (.slice aD D.1.length cD) (.slice bD D.2.length dD) D s x w2 XD.out.r hms hmx).mono ?_
    rintro e w3 ⟨rfl, hb⟩
    rw [← hR.out]
    replace XD := Lib.hid (XD.out.stay hb)
    replace HB := Lib.hid (belUp HB.out (hb))
    clear hb
    have zD0 := XD.out.c0
    have zD1 := XD.out.c1
    go_wp2_with fail
    clear zD0 zD1
    refine (sDfaValid_c (.slice aD D.1.length cD) (.slice bD D.2.length dD) D w3 XD.out.r).mono ?_
    rintro e w4 ⟨okd, rfl, hb, hokd⟩
    replace XD := Lib.hid (XD.out.stay hb)
    replace HB := Lib.hid (belUp HB.out (hb))
    clear hb
    cases okd
    · have hx0 : R = ByteArray.empty := by rw [hR.out]; exact repl_no1 (hbF hokd)
      subst hx0
      go_wp2_with fail
      refine (alive_c _).mono ?_
      rintro e w9 ⟨b9, rfl, rfl, hb9⟩
      obtain rfl : b9 = true := hb9.out.2 trivial
      go_wp2
      go_ret
      exact ⟨rfl, HB.out⟩
    · have Hok := Lib.hid (hbT hokd); clear hokd
      go_wp2_with fail
      refine (sTextValid_c s w4 hms).mono ?_
      rintro e w7 ⟨b7, rfl, rfl, hp7⟩
      cases b7
      · have hx0 : R = ByteArray.empty := by rw [hR.out]; exact repl_no2 (hbF hp7)
        subst hx0
        go_wp2_with fail
        refine (alive_c _).mono ?_
        rintro e w9 ⟨b9, rfl, rfl, hb9⟩
        obtain rfl : b9 = true := hb9.out.2 trivial
        go_wp2
        go_ret
        exact ⟨rfl, HB.out⟩
      · have Htx := Lib.hid (hbT hp7); clear hp7
        go_wp2_with fail
        refine (sWordValid_c x w4 hmx).mono ?_
        rintro e w8 ⟨b8, rfl, rfl, hp8⟩
        cases b8
        · have hx0 : R = ByteArray.empty := by rw [hR.out]; exact repl_no3 (hbF hp8)
          subst hx0
          go_wp2_with fail
          refine (alive_c _).mono ?_
          rintro e w9 ⟨b9, rfl, rfl, hb9⟩
          obtain rfl : b9 = true := hb9.out.2 trivial
          go_wp2
          go_ret
          exact ⟨rfl, HB.out⟩
        · have Hwx := Lib.hid (hbT hp8); clear hp8
          have zD0 := XD.out.c0
          have zD1 := XD.out.c1
          go_wp2_with fail
          clear zD0 zD1
          refine (FindAll_c (.slice aD D.1.length cD) (.slice bD D.2.length dD) D s w4 XD.out.r hms).mono ?_
          rintro e w9 ⟨v, rfl, hb, hv⟩
          obtain ⟨xs, hxs⟩ : ∃ xs, xs = allv D s := ⟨_, rfl⟩
          have hv2 : Hid (Pairs (fun _ => True) w9 v xs) := Lib.hid (by rw [hxs]; exact ((ownFl hv.out).fl).mono fun _ _ => trivial)
          replace XD := Lib.hid (XD.out.stay hb)
          replace HB := Lib.hid (belUp HB.out (hb))
          clear hb hv
          obtain ⟨av, cv, rfl, hnv⟩ := hv2.out.shape
          obtain ⟨hsz, hl31, hmem, hnil⟩ := ra_fin Hok.out Htx.out Hwx.out
          rw [← hR.out, ← hxs] at hsz hnil
          rw [← hxs] at hl31 hmem
          have hs30 := Htx.out.2
          have hx8 := Hwx.out.2
          clear hR hxs Hok Htx Hwx
          replace hsz := Lib.hid hsz
          replace hmem := Lib.hid hmem
          replace hnil := Lib.hid hnil
          go_wp2_with fail
          go_loopw [8, 9] (fun a i wr => ∃ (k : Nat) (m : Int), k ≤ xs.length ∧ a = .int .i64 m ∧ i = .int .i64 k ∧ Hid (m + dsum x (xs.drop k) = R.size) ∧ -1000 * (k : Int) ≤ m ∧ m ≤ 1000 + 1000 * (k : Int) ∧ Hid (Below w9.heap.size w9 wr)) (fun _ i _ => xs.length - (intOf i).toNat)
          case atStart => exact ⟨0, s.size, by omega, rfl, rfl, Lib.hid (by rw [List.drop_zero]; exact hsz.out.symm), by omega, by omega, Lib.hid (Below.refl _ _)⟩
          case round =>
            obtain ⟨k, m, hk, rfl, rfl, hd, hm1, hm2, hbr⟩ := hrel
            have Hv := Lib.hid (hv2.out.stay (kpB hbr.out))
            replace HB := Lib.hid (belUp HB.out hbr.out)
            by_cases hlt : k < xs.length
            · have hkI : (k : Int) < (xs.length : Int) := by omega
              have hb3 := hmem.out _ (List.getElem_mem hlt)
              have hd2 := hd.out
              rw [dsum_drop hlt] at hd2
              have hd3 := Lib.hid hd2
              obtain ⟨ba, oa, rfl, ha0, ha1⟩ := Hv.out.at hlt
              clear hd hd2
              generalize xs[k] = mm at *
              obtain ⟨p, q⟩ := mm
              obtain ⟨hp1, hp2, hp3⟩ := hb3
              replace hp1 : 0 ≤ p := hp1
              replace hp2 : p ≤ q := hp2
              replace hp3 : q ≤ 30 := hp3
              go_wp2_with fail
              go_quiet (fail)
              go_wp2
              go_roundw
              case rel => exact ⟨k + 1, m + x.size - (q - p), by omega, by go_num, by go_num, Lib.hid (by have h := hd3.out; omega), by omega, by omega, belDrewN hbr.out _⟩
              case measure => simp [intOf]; omega
            · obtain rfl : k = xs.length := by omega
              have hmR : m = (R.size : Int) := by have h := hd.out; rw [List.drop_length] at h; simpa [dsum] using h
              subst hmR
              by_cases hx0 : xs = []
              · obtain rfl : R = s := hnil.out hx0
                subst hx0
                go_wp2
                go_ret
                exact ⟨rfl, HB.out⟩
              · have hpos : 0 < xs.length := List.length_pos_iff.2 hx0
                have hposI : (0 : Int) < (xs.length : Int) := by omega
                clear hx0
                go_wp2
                go_ret
                exact ⟨rfl, HB.out⟩
end Go.Proofs.Ytcbhfopabgiiiaa.fnReplaceAll
