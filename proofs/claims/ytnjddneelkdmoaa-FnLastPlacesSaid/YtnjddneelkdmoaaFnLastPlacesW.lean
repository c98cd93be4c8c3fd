/- FnLastPlaces answers true: the walk. -/
import Derived.Test.YtnjddneelkdmoaaExp
import Derived.Test.YtnjddneelkdmoaaAcc
import Derived.Test.YtnjddneelkdmoaaWat
import Derived.Test.YtnjddneelkdmoaaEdg
import Derived.Test.YtnjddneelkdmoaaGC
import Derived.Test.YtnjddneelkdmoaaTto
import Derived.Deep.RegionHeld3
set_option linter.unusedSimpArgs false
set_option linter.unusedVariables false
set_option linter.unusedSectionVars false
namespace Go.Proofs.Ytnjddneelkdmoaa.fnLastPlaces
open Go.RowKit
set_option maxRecDepth 100000
variable {S T : Nat → Prop}
theorem nodupLe {l₁ l₂ : List Int} (h : l₁.Nodup) (hs : ∀ x ∈ l₁, x ∈ l₂) : l₁.length ≤ l₂.length := by
  induction l₁ generalizing l₂ with
  | nil => simp
  | cons a l ih =>
    rw [List.nodup_cons] at h
    have ha := hs a (List.mem_cons_self ..)
    have h1 := ih (l₂ := l₂.erase a) h.2 (fun x hx => (List.mem_erase_of_ne (by rintro rfl; exact h.1 hx)).2 (hs x (List.mem_cons_of_mem _ hx)))
    rw [List.length_erase_of_mem ha] at h1
    have h2 := List.length_pos_of_mem ha
    simp; omega
/-- One of the first places of the list has this letter. -/
def hit (e : List (Int × Int)) (L : List Int) (c : Int) (k : Nat) : Prop := ∃ j, ∃ h : j < L.length, j < k ∧ (e.getD (L[j]).toNat (0, 0)).2 = c
theorem hit_no {e : List (Int × Int)} {L : List Int} {c : Int} : ¬ hit e L c 0 := fun ⟨_, _, h, _⟩ => by omega
theorem hit_step {e : List (Int × Int)} {L : List Int} {c : Int} {k : Nat} (hk : k < L.length) : hit e L c (k + 1) ↔ hit e L c k ∨ (e.getD (L[k]).toNat (0, 0)).2 = c := by
  constructor
  · rintro ⟨j, hj, h1, h2⟩
    rcases Nat.lt_succ_iff_lt_or_eq.1 h1 with h | rfl
    · exact .inl ⟨j, hj, h, h2⟩
    · exact .inr h2
  · rintro (⟨j, hj, h1, h2⟩ | h)
    · exact ⟨j, hj, by omega, h2⟩
    · exact ⟨k, hk, by omega, h⟩
set_option maxHeartbeats 4000000 in
theorem walk (w : World) (v : Value) (bs : List UInt8) (h : Bytes (fun _ => True) w v bs) :
    Calls Try.prog 7 #[v] w (Yes w) := by
  obtain ⟨a, cap, rfl, hn⟩ := h.shape
  have H := Lib.hid h; clear h
  by_cases hl : 1048576 < bs.length
  · go_enter Try.func7, Try.ntmps7
    go_wp2
    go_ret
    exact ⟨rfl, Below.refl _ _⟩
  · go_enter Try.func7, Try.ntmps7
    go_wp2_with fail
    refine (DrawLastPlaces_c _ _ _ H.out).mono ?_
    rintro e w1 ⟨v1, xs, rfl, hx, hb1, hp1⟩
    clear H hn hl
    obtain ⟨a1, c1, rfl, _⟩ := hp1.out.shape
    have HB := Lib.hid hb1
    clear hb1
    go_wp2_with fail
    refine (LastPlaces_c _ xs w1 hp1.out).mono ?_
    rintro e w2 ⟨y, rfl, hb, hy⟩
    obtain ⟨L, hL⟩ : ∃ L, L = lpw xs := ⟨_, rfl⟩
    replace hL := Lib.hid hL
    rw [← hL.out] at hy
    obtain ⟨ay, cy, rfl, _⟩ := hy.out.shape
    have hp2 := Lib.hid (hp1.out.stay (kpB hb))
    replace HB := Lib.hid (HB.out.trans (hb.mono HB.out.size))
    clear hb hp1
    go_wp2_with fail
    refine (sLastPlaces_c _ xs w2 hp2.out (by omega)).mono ?_
    rintro e w3 ⟨z, rfl, hb, hz⟩
    rw [← hL.out] at hz
    obtain ⟨az, cz, rfl, _⟩ := hz.out.shape
    have hp3 := Lib.hid (hp2.out.stay (kpB hb))
    have hy3 := Lib.hid (hy.out.stay hb)
    replace HB := Lib.hid (HB.out.trans (hb.mono HB.out.size))
    clear hb hp2 hy
    go_wp2_with fail
    refine (sameInts_c _ _ L L w3 hy3.out.rd hz.out.rd).mono ?_
    rintro e w4 ⟨b4, rfl, hb, hh⟩
    obtain rfl : b4 = true := hh.out.2 rfl
    have hp4 := Lib.hid (hp3.out.stay (kpB hb))
    have hy4 := Lib.hid ((hy3.out.rd).stay (kpB hb))
    replace HB := Lib.hid (HB.out.trans (hb.mono HB.out.size))
    clear hb hp3 hy3 hz hh
    go_wp2_with fail
    refine (plain_c _ xs w4 hp4.out (by omega)).mono ?_
    rintro e w5 ⟨ok, rfl, hb, hok⟩
    have hp5 := Lib.hid (hp4.out.stay (kpB hb))
    have hy5 := Lib.hid (hy4.out.stay (kpB hb))
    replace HB := Lib.hid (HB.out.trans (hb.mono HB.out.size))
    clear hb hp4 hy4
    cases ok
    · have hL2 := hL.out
      rw [lpw_none (plT_no (hbF hok))] at hL2
      subst hL2
      go_wp2_with fail
      refine (alive_c _).mono ?_
      rintro e w9 ⟨b9, rfl, rfl, hb9⟩
      obtain rfl : b9 = true := hb9.out.2 trivial
      go_wp2
      go_ret
      exact ⟨rfl, HB.out⟩
    · obtain ⟨hok1, hpl⟩ := hbT hok
      clear hok
      obtain ⟨t, ht, he, hl60, hT⟩ := plT_yes hok1 hpl
      have HLT : Hid (L = t.lps 0) := Lib.hid (by rw [hL.out, lpw_some hT])
      subst he
      have HIN : Hid (∀ x ∈ L, 0 ≤ x ∧ x < t.flat.length) := Lib.hid (fun x hx => by
        rw [HLT.out] at hx
        have := (lps_asc t 0).2.1 x hx
        omega)
      have hLl : L.length ≤ t.flat.length := by have := (lps_asc t 0).2.2; rw [← HLT.out] at this; omega
      have HLAW : Hid (∀ s : ByteArray, 0 < s.size → Acc t.flat s → hit t.flat L ((ltrs s).getD (s.size - 1) 0) L.length) := Lib.hid (fun s hs ha => by
        have hlang := (acc_iff ht ha.1).1 ha
        obtain ⟨c, rest, hcr⟩ : ∃ c rest, ltrs s = rest ++ [c] := by
          rcases List.eq_nil_or_concat (ltrs s) with h | ⟨r, c, h⟩
          · have := ltrs_len s; rw [h] at this; simp at this; omega
          · exact ⟨c, r, by simpa using h⟩
        have hls := ltrs_len s
        rw [hcr] at hlang hls ⊢
        obtain ⟨x, hx, h1, h2, h3⟩ := lps_lang t hpl 0 c rest hlang
        rw [← HLT.out] at hx
        obtain ⟨j, hj, rfl⟩ := List.getElem_of_mem hx
        refine ⟨j, hj, hj, ?_⟩
        rw [Int.sub_zero] at h3
        rw [h3]
        have hlr : s.size - 1 = rest.length := by simp at hls; omega
        rw [hlr, List.getD_eq_getElem?_getD]; simp)
      have HOK := Lib.hid hok1; have HPL := Lib.hid hpl; have HT := Lib.hid ht
      have HWF := Lib.hid ht
      clear hok1 hpl hT ht
      have HBS := HB.out.size
      go_wp2_with fail
      go_loopw [5] (fun i wr => ∃ n : Nat, 1 ≤ n ∧ n ≤ 13 ∧ i = .int .i64 n ∧ Hid (Below w5.heap.size w5 wr)) (fun i _ => 13 - (intOf i).toNat)
      case atStart => exact ⟨1, by omega, by omega, rfl, Below.refl _ _⟩
      case round =>
        obtain ⟨n, hn1, hn13, rfl, hB⟩ := hrel
        generalize wr = wq at *
        have hpq := Lib.hid (hp5.out.stay (kpB hB.out))
        by_cases hlt : n < 13
        · have hnI : (n : Int) < 13 := by omega
          go_wp2_with fail
          refine (WordAt_c n hn1 (by omega) wq).mono ?_
          rintro e wq ⟨s, rfl, rfl, hs⟩
          have hsp := hs.out.2.1
          have hs8 := hs.out.2.2
          have hne : s.toList.isEmpty = false := strCons hsp
          go_wp2_with fail
          refine (ExprAccepts_c _ t.flat s (by unfold maxLen; omega) wq hpq.out).mono ?_
          rintro e w6 ⟨ba, rfl, hb6, hacc⟩
          have HB6 := Lib.hid (hB.out.trans (hb6.mono hB.out.size))
          have hp6 := Lib.hid (hp5.out.stay (kpB HB6.out))
          have hy6 := Lib.hid (hy5.out.stay (kpB HB6.out))
          clear hB hpq hb6
          obtain ⟨P, hP⟩ : ∃ P, s.size = P + 1 := ⟨s.size - 1, by omega⟩
          have hPw : IntKind.i64.wrap (P : Int) = (P : Int) := IntWalk.i64_in _ (by omega)
          have hPl : (P : Int) < (P : Int) + 1 := by omega
          obtain ⟨c, hc⟩ : ∃ c, c = (ltrs s).getD (P) 0 := ⟨_, rfl⟩
          have HFIN : Hid (ba = true → hit t.flat L c L.length) := Lib.hid (fun h => by rw [hc]; have h2 := HLAW.out s hsp (hacc.out.1 h); rw [hP] at h2; exact h2)
          have hlet : (s[P]'(by omega)).toNat - 97 = c ∧ (97 : Int) ≤ ((s[P]'(by omega)).toNat : Int) ∧ ((s[P]'(by omega)).toNat : Int) ≤ 99 := ⟨by rw [hc, ltrs_at (by omega)], (hs.out.1 _ (by omega)).1, (hs.out.1 _ (by omega)).2⟩
          have HLET := Lib.hid hlet
          have Hs := hs
          clear hacc hc hlet hs
          go_wp2_with fail
          go_loopw [8, 9] (fun f i wr => ∃ k : Nat, k ≤ L.length ∧ i = .int .i64 k ∧ (∃ bb : Bool, f = .bool bb ∧ Hid (bb = true ↔ (ba = false ∨ hit t.flat L c k))) ∧ ∃ nq, wr = w6.drewN nq) (fun _ i _ => L.length - (intOf i).toNat)
          case atStart => exact ⟨0, by omega, rfl, ⟨!ba, by cases ba <;> rfl, Lib.hid (by cases ba <;> simp [hit_no])⟩, 0, rfl⟩
          case round =>
            obtain ⟨k, hk, rfl, ⟨bb, rfl, hbb⟩, nq, rfl⟩ := hrel
            by_cases hlt2 : k < L.length
            · have hkI : (k : Int) < (L.length : Int) := by omega
              have HST := Lib.hid (hit_step (e := t.flat) (c := c) hlt2)
              cases bb
              · have hno := hbF hbb
                obtain ⟨bx, ox, rfl, x0⟩ := hy6.out.at hlt2
                obtain ⟨hx0, hx1⟩ := HIN.out _ (List.getElem_mem hlt2)
                obtain ⟨x, hxe⟩ : ∃ x : Nat, L[k] = (x : Int) := ⟨(L[k]).toNat, by omega⟩
                rw [hxe] at x0 HST
                have hxl : x < t.flat.length := by omega
                rw [Int.toNat_natCast, show t.flat.getD x (0, 0) = t.flat[x] by rw [List.getD_eq_getElem?_getD, List.getElem?_eq_getElem hxl, Option.getD_some]] at HST
                obtain ⟨be, oe, rfl, q0, q1⟩ := hp6.out.at hxl
                obtain ⟨y, hy⟩ : ∃ y, y = (t.flat[x]).2 := ⟨_, rfl⟩
                rw [← hy] at q1 HST
                clear hy q0 hx0 hx1 hxe
                have hxI : (x : Int) < (t.flat.length : Int) := by omega
                have x0D : (w6.drewN nq).cell? _ = _ := x0
                have q1D : (w6.drewN nq).cell? _ = _ := q1
                obtain ⟨hl1, hl2, hl3⟩ := HLET.out
                by_cases hyc : y = c
                · have HN : Hid (ba = false ∨ hit t.flat L c (k + 1)) := Lib.hid (.inr (HST.out.2 (.inr hyc)))
                  subst hyc
                  go_wp2_with fail
                  go_quiet (fail)
                  go_wp2_with fail
                  go_roundw
                  case rel => exact ⟨k + 1, by omega, by go_num, ⟨_, rfl, Lib.hid ⟨fun _ => HN.out, fun _ => rfl⟩⟩, _, rfl⟩
                  case measure => simp [intOf]; omega
                · have HN : Hid (false = true ↔ (ba = false ∨ hit t.flat L c (k + 1))) := Lib.hid ⟨nofun, fun h => by
                    rcases h with h | h
                    · exact absurd (.inl h) hno
                    · rcases HST.out.1 h with h | h
                      · exact absurd (.inr h) hno
                      · exact absurd h hyc⟩
                  have hycb : (y == c) = false := by simpa using hyc
                  clear hno
                  go_wp2_with fail
                  go_quiet (fail)
                  go_wp2_with fail
                  go_roundw
                  case rel => exact ⟨k + 1, by omega, by go_num, ⟨_, rfl, HN⟩, _, rfl⟩
                  case measure => simp [intOf]; omega
              · have HN : Hid (ba = false ∨ hit t.flat L c (k + 1)) := Lib.hid ((hbT hbb).imp id (fun h => HST.out.2 (.inl h)))
                go_wp2_with fail
                go_quiet (fail)
                go_wp2_with fail
                go_roundw
                case rel => exact ⟨k + 1, by omega, by go_num, ⟨_, rfl, Lib.hid ⟨fun _ => HN.out, fun _ => rfl⟩⟩, _, rfl⟩
                case measure => simp [intOf]; omega
            · obtain rfl : k = L.length := by omega
              have hbt : bb = true := hbb.out.2 (by
                cases ba
                · exact .inl rfl
                · exact .inr (HFIN.out rfl))
              subst hbt
              have HB7 : Hid (Below w5.heap.size w5 (w6.drewN nq)) := Lib.hid (HB6.out.trans ((belReflN _ _ _).mono HB6.out.size))
              go_wp2_with fail
              go_roundw
              case rel => exact ⟨n + 1, by omega, by omega, by go_num, HB7⟩
              case measure => simp [intOf]; omega
        · obtain rfl : n = 13 := by omega
          go_wp2_with fail
          refine (TurnExpr_c _ t wq HWF.out HOK.out hpq.out).mono ?_
          rintro e w9 ⟨v9, rfl, hb, ho⟩
          have hpr := Lib.hid ho.out.rd
          obtain ⟨a9, c9, rfl, _⟩ := hpr.out.shape
          have HB8 := Lib.hid (HB.out.trans ((hB.out.trans (hb.mono hB.out.size)).mono HB.out.size))
          clear ho hb hpq
          go_wp2_with fail
          refine (FirstPlaces_c _ t.trn.flat w9 hpr.out).mono ?_
          rintro e wx ⟨lv, rfl, hb, ho⟩
          have hle : (fpv t.trn.flat).length = L.length := by
            rw [fpv_trn HWF.out HOK.out HPL.out, HLT.out]
            exact trn_fps t 0 0
          obtain ⟨ax, cx, rfl, _⟩ := ho.out.shape
          rw [hle]
          have HB9 := Lib.hid (HB8.out.trans (hb.mono HB8.out.size))
          go_wp2
          go_ret
          exact ⟨rfl, HB9.out⟩
end Go.Proofs.Ytnjddneelkdmoaa.fnLastPlaces
