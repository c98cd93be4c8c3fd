/- FnFindAll answers true: the walk. -/
import Derived.Test.YtcbhfopabgiiiaaFin
import Derived.Test.YtcbhfopabgiiiaaGG
import Derived.Test.YtcbhfopabgiiiaaTxa
import Derived.Deep.RegionHeld3
set_option linter.unusedSimpArgs false
set_option linter.unusedVariables false
set_option linter.unusedSectionVars false
namespace Go.Proofs.Ytcbhfopabgiiiaa.fnFindAll
open Go.RowKit
set_option maxRecDepth 100000
theorem ffs_find {D : DfaD} {s : ByteArray} (hv : okD D ∧ (letS s ∧ s.size ≤ 30)) {f : Nat} (hf : f ≤ s.size) : ffs D s (f : Int) = find D s f := by
  unfold ffs
  rw [if_pos ⟨hv.1, hv.2, by omega, by omega⟩, Int.toNat_natCast]
theorem fa_next {D : DfaD} {s : ByteArray} {xs : List (Int × Int)} (hx : xs = allv D s) {k f : Nat} (hk : k < xs.length) (hf : f ≤ s.size + 1) (hd : okD D ∧ (letS s ∧ s.size ≤ 30) → xs.drop k = alls D s f) :
    (okD D ∧ (letS s ∧ s.size ≤ 30)) ∧ f ≤ s.size ∧ ffs D s (f : Int) = some xs[k] ∧ ((f : Int) ≤ xs[k].1 ∧ xs[k].1 ≤ xs[k].2 ∧ xs[k].2 ≤ s.size) ∧ xs.drop (k + 1) = alls D s (nxt xs[k]) := by
  have hv : okD D ∧ (letS s ∧ s.size ≤ 30) := Classical.byContradiction fun hn => by
    have : allv D s = [] := if_neg hn
    rw [this] at hx
    subst hx
    simp at hk
  have h1 := hd hv
  rw [List.drop_eq_getElem_cons hk] at h1
  cases hfd : find D s f with
  | none => rw [alls_none hf hfd] at h1; cases h1
  | some m =>
    rw [alls_some hf hfd] at h1
    injection h1 with h2 h3
    have hfs : f ≤ s.size := by
      rcases Nat.lt_or_ge s.size f with h | h
      · obtain rfl : f = s.size + 1 := by omega
        rw [find_end] at hfd; cases hfd
      · exact h
    have hb := find_some _ f rfl hf (p := m.1) (q := m.2) hfd
    refine ⟨hv, hfs, by rw [ffs_find hv hfs, hfd, h2], by rw [h2]; omega, by rw [h2]; exact h3⟩
theorem fa_end {D : DfaD} {s : ByteArray} {xs : List (Int × Int)} {k f : Nat} (hk : k = xs.length) (hf : f ≤ s.size + 1) (hd : okD D ∧ (letS s ∧ s.size ≤ 30) → xs.drop k = alls D s f) : ffs D s (f : Int) = none := by
  by_cases hv : okD D ∧ (letS s ∧ s.size ≤ 30)
  · rcases Nat.lt_or_ge s.size f with h | h
    · unfold ffs
      rw [if_neg (fun hh => by have := hh.2.2.2; omega)]
    · rw [ffs_find hv h]
      have h1 := hd hv
      subst hk
      rw [List.drop_length] at h1
      cases hfd : find D s f with
      | none => rfl
      | some m => rw [alls_some hf hfd] at h1; cases h1
  · unfold ffs
    rw [if_neg (fun hh => hv ⟨hh.1, hh.2.1⟩)]
set_option maxHeartbeats 8000000 in
theorem walk (w : World) (v : Value) (bs : List UInt8) (h : Bytes (fun _ => True) w v bs) :
    Calls Try.prog 6 #[v] w (Yes w) := by
  obtain ⟨a, cap, rfl, hn⟩ := h.shape
  have H := Lib.hid h; clear h
  by_cases hl : 1048576 < bs.length
  · go_enter Try.func6, Try.ntmps6
    go_wp2
    go_ret
    exact ⟨rfl, Below.refl _ _⟩
  · go_enter Try.func6, Try.ntmps6
    go_wp2_with fail
    refine (DrawFindAll_c _ _ _ H.out).mono ?_
    rintro e w1 ⟨D, v1, v2, s, rfl, hzs, hb1, hd1⟩
    clear H hn hl
    have hms : s.size ≤ maxLen := by unfold maxLen; omega
    obtain ⟨aD, cD, bD, dD, rfl, rfl, hnD, hmD⟩ := (hd1.out).shapes
    obtain ⟨W1, hW1, HN, XD⟩ := boxed hb1 (hd1.out)
    have HB := HN; clear HN
    have HW := Lib.hid hW1; clear hW1
    have zD0 := XD.out.c0
    have zD1 := XD.out.c1
    rw [HW.out] at zD0 zD1
    go_wp2_with fail
    rw [← HW.out]; clear HW
    clear zD0 zD1
    refine (FindAll_c (.slice aD D.1.length cD) (.slice bD D.2.length dD) D s W1 XD.out.r hms).mono ?_
    rintro e w2 ⟨v, rfl, hb, hv⟩
    obtain ⟨xs, hxs⟩ : ∃ xs, xs = allv D s := ⟨_, rfl⟩
    have hv2 : Hid (Pairs (fun _ => True) w2 v xs) := Lib.hid (by rw [hxs]; exact ((ownFl hv.out).fl).mono fun _ _ => trivial)
    replace hxs := Lib.hid hxs
    replace XD := Lib.hid (XD.out.stay hb)
    replace HB := Lib.hid (belUp HB.out (hb))
    clear hb hv
    obtain ⟨av, cv, rfl, hnv⟩ := hv2.out.shape
    have zD0 := XD.out.c0
    have zD1 := XD.out.c1
    go_wp2_with fail
    clear zD0 zD1
    refine (sFindAll_c (.slice aD D.1.length cD) (.slice bD D.2.length dD) D s w2 XD.out.r hms).mono ?_
    rintro e w3 ⟨y, rfl, hb, hy⟩
    have hy2 : Hid (Pairs (fun _ => True) w3 y xs) := Lib.hid (by rw [hxs.out]; exact ((ownFl hy.out).fl).mono fun _ _ => trivial)
    replace hv2 := Lib.hid (hv2.out.stay (kpB hb))
    replace XD := Lib.hid (XD.out.stay hb)
    replace HB := Lib.hid (belUp HB.out (hb))
    clear hb hy
    obtain ⟨ay, cy, rfl, hny⟩ := hy2.out.shape
    have hnn : ((xs.length : Int) != (xs.length : Int)) = false := by simp
    go_wp2_with fail
    go_loopw [7, 8] (fun a i wr => ∃ k f : Nat, k ≤ xs.length ∧ a = .int .i64 f ∧ i = .int .i64 k ∧ f ≤ s.size + 1 ∧ Hid (okD D ∧ (letS s ∧ s.size ≤ 30) → xs.drop k = alls D s f) ∧ Hid (∀ j (h : j < xs.length), k = j + 1 → xs[j].2 ≤ (f : Int)) ∧ Hid (Below w3.heap.size w3 wr)) (fun _ i _ => xs.length - (intOf i).toNat)
    case atStart => exact ⟨0, 0, by omega, rfl, rfl, by omega, Lib.hid (fun h => by rw [hxs.out]; exact allv_yes h.1 h.2), Lib.hid (fun j h e => by omega), Lib.hid (Below.refl _ _)⟩
    case round =>
      obtain ⟨k, f, hk, rfl, rfl, hf, hd, hpv, hbr⟩ := hrel
      replace XD := Lib.hid (XD.out.stay hbr.out)
      replace HB := Lib.hid (belUp HB.out (hbr.out))
      have hf9 : (f : Int) ≤ 1001 := by omega
      by_cases hlt : k < xs.length
      · obtain ⟨hval, hfs, hff, hmb, hdr⟩ := fa_next hxs.out hlt hf hd.out
        have Hff := Lib.hid hff; clear hff
        have Hdr := Lib.hid hdr; clear hdr hval
        have Hv := Lib.hid (hv2.out.stay (kpB hbr.out))
        have Hy := Lib.hid (hy2.out.stay (kpB hbr.out))
        have hprev := Lib.hid (fun j (h : j < xs.length) (e : k = j + 1) => hpv.out j h e)
        have zD0 := XD.out.c0
        have zD1 := XD.out.c1
        go_wp2_with fail
        clear zD0 zD1
        refine (FindFirst_c (.slice aD D.1.length cD) (.slice bD D.2.length dD) D s f wr XD.out.r hms).mono ?_
        rintro e w5 ⟨rfl, hb⟩
        rw [Hff.out]
        obtain ⟨m, hm⟩ : ∃ m, m = xs[k] := ⟨_, rfl⟩
        rw [← hm] at hmb Hdr ⊢
        have Hm := Lib.hid hm; clear hm
        obtain ⟨p, q⟩ := m
        obtain ⟨hp1, hp2, hp3⟩ := hmb
        replace hp1 : (f : Int) ≤ p := hp1
        replace hp2 : p ≤ q := hp2
        replace hp3 : q ≤ (s.size : Int) := hp3
        obtain ⟨qn, rfl⟩ := Int.eq_ofNat_of_zero_le (show 0 ≤ q by omega)
        obtain ⟨pn, rfl⟩ := Int.eq_ofNat_of_zero_le (show 0 ≤ p by omega)
        obtain ⟨W5, hW5⟩ : ∃ x, x = w5.alloc (.cells #[.int .i64 pn, .int .i64 qn] 44) := ⟨_, rfl⟩
        have hb5 : Below wr.heap.size wr W5 := by rw [hW5]; exact hb.alloc hb.size _
        have hbr5 := Lib.hid (belUp hbr.out hb5)
        have HV5 := Lib.hid (Hv.out.stay (kpB hb5))
        have HY5 := Lib.hid (Hy.out.stay (kpB hb5))
        have k5 : W5.heap[w5.heap.size]? = some (.cells #[.int .i64 pn, .int .i64 qn] 44 (0, 0)) := by rw [hW5]; exact blkNew _ _ rfl
        have K5 := Lib.hid k5; clear k5
        obtain ⟨ba, oa, rfl, ha0, ha1⟩ := HV5.out.at hlt
        obtain ⟨bb, ob, rfl, hc0, hc1⟩ := HY5.out.at hlt
        rw [← Hm.out] at ha0 ha1 hc0 hc1
        have HW5 := Lib.hid hW5; clear hW5 hb hb5
        have e1 : ((pn : Int) != (pn : Int)) = false := by simp
        have e2 : ((qn : Int) != (qn : Int)) = false := by simp
        have hkI : (k : Int) < (xs.length : Int) := by omega
        obtain ⟨z0, z1, z2, z3⟩ := blk2 K5.out
        rw [HW5.out] at z0 z1
        have hfin : Hid (∀ f' : Nat, f' = nxt ((pn : Int), (qn : Int)) → f' ≤ s.size + 1 ∧ (okD D ∧ (letS s ∧ s.size ≤ 30) → xs.drop (k + 1) = alls D s f') ∧ ∀ j (h : j < xs.length), k + 1 = j + 1 → xs[j].2 ≤ (f' : Int)) := fun f' e => by
          subst e
          refine ⟨?_, fun _ => Hdr.out, fun j h e => ?_⟩
          · unfold nxt; simp only; split <;> omega
          · obtain rfl : j = k := by omega
            rw [← Hm.out]
            unfold nxt; simp only; split <;> omega
        by_cases hk0 : k = 0
        · have hkle : (k : Int) ≤ 0 := by omega
          have hkn : ¬ (0 < k) := by omega
          have hknI : ¬ ((0 : Int) < (k : Int)) := by omega
          have hkdI : decide ((0 : Int) < (k : Int)) = false := decide_eq_false hknI
          clear hk0
          by_cases hpq : pn = qn
          · subst hpq
            have hEq : ((pn : Int) == (pn : Int)) = true := by simp
            skip
            go_wp2_with fail
            rw [← HW5.out] at z0 z1 ⊢
            clear HW5
            go_quiet (fail)
            go_wp2
            go_roundw
            case rel => exact ⟨k + 1, pn + 1, by omega, by go_num, by go_num, (hfin.out _ (by unfold nxt; simp only; rw [if_pos (by simp)]; simp)).1, Lib.hid (hfin.out _ (by unfold nxt; simp only; rw [if_pos (by simp)]; simp)).2.1, Lib.hid (hfin.out _ (by unfold nxt; simp only; rw [if_pos (by simp)]; simp)).2.2, belDrewN hbr5.out _⟩
            case measure => simp [intOf]; omega
          · have hEq : ((pn : Int) == (qn : Int)) = false := by simp; omega
            skip
            go_wp2_with fail
            rw [← HW5.out] at z0 z1 ⊢
            clear HW5
            go_quiet (fail)
            go_wp2
            go_roundw
            case rel => exact ⟨k + 1, qn, by omega, by go_num, by go_num, (hfin.out _ (by unfold nxt; simp only; rw [if_neg (fun e => hpq (by omega))]; simp)).1, Lib.hid (hfin.out _ (by unfold nxt; simp only; rw [if_neg (fun e => hpq (by omega))]; simp)).2.1, Lib.hid (hfin.out _ (by unfold nxt; simp only; rw [if_neg (fun e => hpq (by omega))]; simp)).2.2, belDrewN hbr5.out _⟩
            case measure => simp [intOf]; omega
        · obtain ⟨j, rfl⟩ : ∃ j, k = j + 1 := ⟨k - 1, by omega⟩
          have hj : j < xs.length := by omega
          obtain ⟨ba', oa', ea, hd0, hd1⟩ := HV5.out.at hj
          cases ea
          have hpj := hprev.out j hj rfl
          generalize xs[j] = mm at *
          obtain ⟨pj, qj⟩ := mm
          replace hpj : qj ≤ (f : Int) := hpj
          have hlt9 : decide ((pn : Int) < qj) = false := by simp; omega
          have hltI : qj ≤ (pn : Int) := by omega
          have hj1 : ((j + 1 : Nat) : Int) - 1 = (j : Int) := by omega
          have hjI : (j : Int) < (xs.length : Int) := by omega
          have hkp : (0 : Int) < ((j + 1 : Nat) : Int) := by omega
          by_cases hpq : pn = qn
          · subst hpq
            have hEq : ((pn : Int) == (pn : Int)) = true := by simp
            skip
            go_wp2_with fail
            rw [← HW5.out] at z0 z1 ⊢
            clear HW5
            go_quiet (fail)
            go_wp2
            go_roundw
            case rel => exact ⟨(j + 1) + 1, pn + 1, by omega, by go_num, by go_num, (hfin.out _ (by unfold nxt; simp only; rw [if_pos (by simp)]; simp)).1, Lib.hid (hfin.out _ (by unfold nxt; simp only; rw [if_pos (by simp)]; simp)).2.1, Lib.hid (hfin.out _ (by unfold nxt; simp only; rw [if_pos (by simp)]; simp)).2.2, belDrewN hbr5.out _⟩
            case measure => simp [intOf]; omega
          · have hEq : ((pn : Int) == (qn : Int)) = false := by simp; omega
            skip
            go_wp2_with fail
            rw [← HW5.out] at z0 z1 ⊢
            clear HW5
            go_quiet (fail)
            go_wp2
            go_roundw
            case rel => exact ⟨(j + 1) + 1, qn, by omega, by go_num, by go_num, (hfin.out _ (by unfold nxt; simp only; rw [if_neg (fun e => hpq (by omega))]; simp)).1, Lib.hid (hfin.out _ (by unfold nxt; simp only; rw [if_neg (fun e => hpq (by omega))]; simp)).2.1, Lib.hid (hfin.out _ (by unfold nxt; simp only; rw [if_neg (fun e => hpq (by omega))]; simp)).2.2, belDrewN hbr5.out _⟩
            case measure => simp [intOf]; omega
      · obtain rfl : k = xs.length := by omega
        have hnone := Lib.hid (fa_end rfl hf hd.out)
        have zD0 := XD.out.c0
        have zD1 := XD.out.c1
        go_wp2_with fail
        clear zD0 zD1
        refine (FindFirst_c (.slice aD D.1.length cD) (.slice bD D.2.length dD) D s f wr XD.out.r hms).mono ?_
        rintro e w5 ⟨rfl, hb⟩
        rw [hnone.out]
        replace XD := Lib.hid (XD.out.stay hb)
        replace HB := Lib.hid (belUp HB.out (hb))
        have hbA := belAlloc w5 (.cells #[.int .i64 0, .int .i64 0] 44)
        replace HB := Lib.hid (belUp HB.out hbA)
        go_wp2_with fail
        refine (alive_c _).mono ?_
        rintro e w9 ⟨b9, rfl, rfl, hb9⟩
        obtain rfl : b9 = true := hb9.out.2 trivial
        go_wp2
        go_ret
        exact ⟨rfl, HB.out⟩
end Go.Proofs.Ytcbhfopabgiiiaa.fnFindAll
