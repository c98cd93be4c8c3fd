/- FnFindEverything answers true: the walk. -/
import Derived.Test.YtcbhfopabgiiiaaFin
import Derived.Test.YtcbhfopabgiiiaaGG
import Derived.Test.YtcbhfopabgiiiaaTxa
import Derived.Deep.RegionHeld3
set_option linter.unusedSimpArgs false
set_option linter.unusedVariables false
set_option linter.unusedSectionVars false
namespace Go.Proofs.Ytcbhfopabgiiiaa.fnFindEverything
open Go.RowKit
set_option maxRecDepth 100000
def oneD (x : Bool) : DfaD := ([[0, 0, 0]], [x])
theorem one_ok (x : Bool) : okD (oneD x) := ⟨⟨by show 1 ≤ 1; decide, by show 1 ≤ 40; decide⟩, rfl, fun r hr => by
  simp [oneD] at hr
  subst hr
  refine ⟨rfl, fun y hy => ?_⟩
  simp at hy
  subst hy
  simp [oneD]⟩
theorem one_dn (x : Bool) (c : Nat) : dn (oneD x) 0 c = 0 := by
  unfold dn oneD
  rcases (by omega : c = 0 ∨ c = 1 ∨ c = 2 ∨ 3 ≤ c) with rfl | rfl | rfl | h
  · rfl
  · rfl
  · rfl
  · simp [List.getD, h]
theorem one_stt (x : Bool) (s : ByteArray) (f : Nat) : ∀ j, stt (oneD x) s f j = 0
  | 0 => rfl
  | j + 1 => by
    show dn (oneD x) (stt (oneD x) s f j) _ = 0
    rw [one_stt x s f j, one_dn]
theorem one_bst (s : ByteArray) (f : Nat) : ∀ j, bst (oneD true) s f j = ((f + j : Nat) : Int)
  | 0 => rfl
  | j + 1 => by
    show (if de (oneD true) (stt (oneD true) s f (j + 1)) then ((f + (j + 1) : Nat) : Int) else bst (oneD true) s f j) = _
    rw [one_stt]
    rfl
theorem none_bst (s : ByteArray) (f : Nat) : ∀ j, bst (oneD false) s f j = -1
  | 0 => rfl
  | j + 1 => by
    show (if de (oneD false) (stt (oneD false) s f (j + 1)) then ((f + (j + 1) : Nat) : Int) else bst (oneD false) s f j) = _
    rw [one_stt, none_bst s f j]
    rfl
theorem one_find (s : ByteArray) {f : Nat} (hf : f ≤ s.size) : find (oneD true) s f = some ((f : Int), (s.size : Int)) := by
  rw [find_step _ _ hf]
  have : lon (oneD true) s f = (s.size : Int) := by
    unfold lon
    rw [one_bst, show f + (s.size - f) = s.size by omega]
  rw [this, if_pos (by omega)]
theorem none_find (s : ByteArray) : ∀ n f, s.size + 1 - f = n → f ≤ s.size + 1 → find (oneD false) s f = none
  | 0, f, h, hf => by
    obtain rfl : f = s.size + 1 := by omega
    exact find_end _ _
  | n + 1, f, h, hf => by
    rw [find_step _ _ (by omega), if_neg, none_find s n (f + 1) (by omega) (by omega)]
    unfold lon
    rw [none_bst]
    omega
theorem all_none (s : ByteArray) : allv (oneD false) s = [] := by
  by_cases h : letS s ∧ s.size ≤ 30
  · rw [allv_yes (one_ok _) h]
    exact alls_none (by omega) (none_find s _ 0 rfl (by omega))
  · exact allv_no2 h
theorem all_end (s : ByteArray) : alls (oneD true) s s.size = [((s.size : Int), (s.size : Int))] := by
  rw [alls_some (by omega) (one_find s (Nat.le_refl _))]
  have : nxt ((s.size : Int), (s.size : Int)) = s.size + 1 := by unfold nxt; simp
  rw [this, alls_none (by omega) (find_end _ _)]
theorem all_empty {s : ByteArray} (h : letS s ∧ s.size ≤ 30) (h0 : s.size = 0) : allv (oneD true) s = [(0, 0)] := by
  rw [allv_yes (one_ok _) h]
  have := all_end s
  rw [h0] at this
  exact this
theorem all_more {s : ByteArray} (h : letS s ∧ s.size ≤ 30) (h0 : s.size ≠ 0) : allv (oneD true) s = [(0, (s.size : Int)), ((s.size : Int), (s.size : Int))] := by
  rw [allv_yes (one_ok _) h, alls_some (by omega) (one_find s (Nat.zero_le _))]
  have : nxt (((0 : Nat) : Int), (s.size : Int)) = s.size := by
    unfold nxt
    simp only
    rw [if_neg (by omega)]
    simp
  rw [this, all_end]
  rfl
theorem litDfa (w : World) (x : Bool) : BxD ((((w.alloc (.cells #[.int .i64 0, .int .i64 0, .int .i64 0] 3)).alloc (.cells #[.slice (some ⟨w.heap.size, 0, none⟩) 3 3] 39)).alloc (.cells #[.bool x] 4)).alloc (.cells #[.slice (some ⟨w.heap.size + 1, 0, none⟩) 1 1, .slice (some ⟨w.heap.size + 1 + 1, 0, none⟩) 1 1] 26)) (w.heap.size + 1 + 1 + 1) (.slice (some ⟨w.heap.size + 1, 0, none⟩) 1 1) (.slice (some ⟨w.heap.size + 1 + 1, 0, none⟩) 1 1) (oneD x) := by
  refine ⟨blkNew _ _ (by simp), ⟨[.slice (some ⟨w.heap.size, 0, none⟩) 3 3], ?_, rfl, ?_⟩, ?_⟩
  · exact ((ownFl (base := 0) (sz := 1) (e := 39) (n := 1) (v := .slice (some ⟨w.heap.size + 1, 0, none⟩) 1 1) (cs := [.slice (some ⟨w.heap.size, 0, none⟩) 3 3]) ⟨rfl, .inr ⟨w.heap.size + 1, 1, _, rfl, by omega, blkOld (blkOld (blkNew _ _ (by simp))), Nat.le_refl _, by unfold maxLen; omega, by simp, by simp⟩⟩).fl).mono fun _ _ => trivial
  · intro i hi
    obtain rfl : i = 0 := by simp [oneD] at hi; omega
    exact ((ownFl (base := 0) (sz := 1) (e := 3) (n := 3) (v := .slice (some ⟨w.heap.size, 0, none⟩) 3 3) (cs := [.int .i64 0, .int .i64 0, .int .i64 0]) ⟨rfl, .inr ⟨w.heap.size, 3, _, rfl, by omega, blkOld (blkOld (blkOld (blkNew _ _ rfl))), Nat.le_refl _, by unfold maxLen; omega, by simp, by simp⟩⟩).fl).mono fun _ _ => trivial
  · exact ((ownFl (base := 0) (sz := 1) (e := 4) (n := 1) (v := .slice (some ⟨w.heap.size + 1 + 1, 0, none⟩) 1 1) (cs := [.bool x]) ⟨rfl, .inr ⟨w.heap.size + 1 + 1, 1, _, rfl, by omega, blkOld (blkNew _ _ (by simp)), Nat.le_refl _, by unfold maxLen; omega, by simp, by simp⟩⟩).fl).mono fun _ _ => trivial
theorem litBel (w : World) (x : Bool) : Below w.heap.size w ((((w.alloc (.cells #[.int .i64 0, .int .i64 0, .int .i64 0] 3)).alloc (.cells #[.slice (some ⟨w.heap.size, 0, none⟩) 3 3] 39)).alloc (.cells #[.bool x] 4)).alloc (.cells #[.slice (some ⟨w.heap.size + 1, 0, none⟩) 1 1, .slice (some ⟨w.heap.size + 1 + 1, 0, none⟩) 1 1] 26)) :=
  ((((Below.refl _ _).alloc (Nat.le_refl _) _).alloc (by simp) _).alloc (by simp; omega) _).alloc (by simp; omega) _
set_option maxHeartbeats 4000000 in
theorem walk (w : World) (v : Value) (bs : List UInt8) (h : Bytes (fun _ => True) w v bs) :
    Calls Try.prog 5 #[v] w (Yes w) := by
  obtain ⟨a, cap, rfl, hn⟩ := h.shape
  have H := Lib.hid h; clear h
  by_cases hl : 1048576 < bs.length
  · go_enter Try.func5, Try.ntmps5
    go_wp2
    go_ret
    exact ⟨rfl, Below.refl _ _⟩
  · go_enter Try.func5, Try.ntmps5
    go_wp2_with fail
    refine (DrawFindAll_c _ _ _ H.out).mono ?_
    rintro e w1 ⟨D, v1, v2, s, rfl, hzs, hb1, hd1⟩
    clear H hn hl
    have hms : s.size ≤ maxLen := by unfold maxLen; omega
    obtain ⟨aD, cD, bD, dD, rfl, rfl, hnD, hmD⟩ := (hd1.out).shapes
    obtain ⟨W1, hW1, HN, XD⟩ := boxed hb1 (hd1.out)
    have HB := HN; clear HN
    have HW := Lib.hid hW1; clear hW1
    obtain ⟨W2, hW2⟩ : ∃ W, W = ((((W1.alloc (.cells #[.int .i64 0, .int .i64 0, .int .i64 0] 3)).alloc (.cells #[.slice (some ⟨W1.heap.size, 0, none⟩) 3 3] 39)).alloc (.cells #[.bool true] 4)).alloc (.cells #[.slice (some ⟨W1.heap.size + 1, 0, none⟩) 1 1, .slice (some ⟨W1.heap.size + 1 + 1, 0, none⟩) 1 1] 26)) := ⟨_, rfl⟩
    have XT : Hid (BxD W2 (W1.heap.size + 1 + 1 + 1) (.slice (some ⟨W1.heap.size + 1, 0, none⟩) 1 1) (.slice (some ⟨W1.heap.size + 1 + 1, 0, none⟩) 1 1) (oneD true)) := by rw [hW2]; exact litDfa W1 true
    have hz2 : Hid (W2.heap.size = W1.heap.size + 1 + 1 + 1 + 1) := by rw [hW2]; simp [Hid]
    have hb2 : Below W1.heap.size W1 W2 := by rw [hW2]; exact litBel W1 true
    obtain ⟨W3, hW3⟩ : ∃ W, W = ((((W2.alloc (.cells #[.int .i64 0, .int .i64 0, .int .i64 0] 3)).alloc (.cells #[.slice (some ⟨W2.heap.size, 0, none⟩) 3 3] 39)).alloc (.cells #[.bool false] 4)).alloc (.cells #[.slice (some ⟨W2.heap.size + 1, 0, none⟩) 1 1, .slice (some ⟨W2.heap.size + 1 + 1, 0, none⟩) 1 1] 26)) := ⟨_, rfl⟩
    have XF : Hid (BxD W3 (W2.heap.size + 1 + 1 + 1) (.slice (some ⟨W2.heap.size + 1, 0, none⟩) 1 1) (.slice (some ⟨W2.heap.size + 1 + 1, 0, none⟩) 1 1) (oneD false)) := by rw [hW3]; exact litDfa W2 false
    have hb3 : Below W2.heap.size W2 W3 := by rw [hW3]; exact litBel W2 false
    replace XT := Lib.hid (XT.out.stay hb3)
    replace HB := Lib.hid (belUp HB.out (belUp hb2 hb3))
    clear hb2 hb3 XD
    have hz1 : W1.heap.size = w1.heap.size + 1 := by rw [HW.out]; simp
    have HW3 := Lib.hid hW3
    rw [hz2.out] at XF HW3
    rw [hW2] at HW3
    rw [hz1] at XT XF HW3
    rw [HW.out] at HW3
    clear hW3 hW2 hz2 hz1 HW W2 W1
    go_wp2_with fail
    rw [← HW3.out]; clear HW3
    refine (FindAll_c (.slice (some ⟨w1.heap.size + 1 + 1, 0, none⟩) 1 1) (.slice (some ⟨w1.heap.size + 1 + 1 + 1, 0, none⟩) 1 1) (oneD true) s W3 XT.out.r hms).mono ?_
    rintro e w4 ⟨v, rfl, hb, hv⟩
    obtain ⟨xs, hxs⟩ : ∃ xs, xs = allv (oneD true) s := ⟨_, rfl⟩
    have hv2 : Hid (Pairs (fun _ => True) w4 v xs) := Lib.hid (by rw [hxs]; exact ((ownFl hv.out).fl).mono fun _ _ => trivial)
    replace hxs := Lib.hid hxs
    replace XT := Lib.hid (XT.out.stay hb)
    replace XF := Lib.hid (XF.out.stay hb)
    replace HB := Lib.hid (belUp HB.out (hb))
    clear hb hv
    obtain ⟨av, cv, rfl, hnv⟩ := hv2.out.shape
    have zT0 := XT.out.c0
    have zT1 := XT.out.c1
    go_wp2_with fail
    clear zT0 zT1
    refine (sFindAll_c (.slice (some ⟨w1.heap.size + 1 + 1, 0, none⟩) 1 1) (.slice (some ⟨w1.heap.size + 1 + 1 + 1, 0, none⟩) 1 1) (oneD true) s w4 XT.out.r hms).mono ?_
    rintro e w5 ⟨y, rfl, hb, hy⟩
    have hy2 : Hid (Pairs (fun _ => True) w5 y xs) := Lib.hid (by rw [hxs.out]; exact ((ownFl hy.out).fl).mono fun _ _ => trivial)
    replace hv2 := Lib.hid (hv2.out.stay (kpB hb))
    replace XT := Lib.hid (XT.out.stay hb)
    replace XF := Lib.hid (XF.out.stay hb)
    replace HB := Lib.hid (belUp HB.out (hb))
    clear hb hy
    obtain ⟨ay, cy, rfl, hny⟩ := hy2.out.shape
    clear hy2
    have hnn : ((xs.length : Int) != (xs.length : Int)) = false := by simp
    have zF0 := XF.out.c0
    have zF1 := XF.out.c1
    go_wp2_with fail
    clear zF0 zF1
    refine (FindAll_c (.slice (some ⟨w1.heap.size + 1 + 1 + 1 + 1 + 1 + 1, 0, none⟩) 1 1) (.slice (some ⟨w1.heap.size + 1 + 1 + 1 + 1 + 1 + 1 + 1, 0, none⟩) 1 1) (oneD false) s w5 XF.out.r hms).mono ?_
    rintro e w6 ⟨v6, rfl, hb, hv6⟩
    rw [all_none] at hv6
    obtain ⟨a6, c6, rfl, _⟩ := (ownFl hv6.out).shape
    replace hv2 := Lib.hid (hv2.out.stay (kpB hb))
    replace XT := Lib.hid (XT.out.stay hb)
    replace XF := Lib.hid (XF.out.stay hb)
    replace HB := Lib.hid (belUp HB.out (hb))
    clear hb hv6
    go_wp2_with fail
    refine (sTextValid_c s w6 hms).mono ?_
    rintro e w7 ⟨b7, rfl, rfl, hp7⟩
    cases b7
    · have hx0 : xs = [] := by rw [hxs.out]; exact allv_no2 (hbF hp7)
      subst hx0
      clear hnn
      go_wp2_with fail
      refine (alive_c _).mono ?_
      rintro e w9 ⟨b9, rfl, rfl, hb9⟩
      obtain rfl : b9 = true := hb9.out.2 trivial
      go_wp2
      go_ret
      exact ⟨rfl, HB.out⟩
    · have hval := Lib.hid (hbT hp7); clear hp7
      by_cases hs0 : s.size = 0
      · have hx1 : xs = [(0, 0)] := by rw [hxs.out]; exact all_empty hval.out hs0
        subst hx1
        clear hnn
        obtain ⟨b1, o1, rfl, hc0, hc1⟩ := hv2.out.at (k := 0) (by decide)
        replace hc0 : w6.cell? ⟨b1, o1, none⟩ = some (.int .i64 0) := by simpa using hc0
        replace hc1 : w6.cell? ⟨b1, o1 + 1, none⟩ = some (.int .i64 0) := by simpa using hc1
        have hse : s = ByteArray.empty := ByteArray.ext (Array.eq_empty_of_size_eq_zero hs0)
        subst hse
        go_wp2
        go_ret
        exact ⟨rfl, HB.out⟩
      · have hx1 : xs = [(0, (s.size : Int)), ((s.size : Int), (s.size : Int))] := by rw [hxs.out]; exact all_more hval.out hs0
        subst hx1
        clear hnn
        obtain ⟨b1, o1, rfl, hc0, hc1⟩ := hv2.out.at (k := 0) (by simp)
        obtain ⟨b2, o2, eb, hd0, hd1⟩ := hv2.out.at (k := 1) (by simp)
        cases eb
        replace hc0 : w6.cell? ⟨b1, o1, none⟩ = some (.int .i64 0) := by simpa using hc0
        replace hc1 : w6.cell? ⟨b1, o1 + 1, none⟩ = some (.int .i64 s.size) := by simpa using hc1
        replace hd0 : w6.cell? ⟨b1, o1 + 2, none⟩ = some (.int .i64 s.size) := by simpa using hd0
        replace hd1 : w6.cell? ⟨b1, o1 + 2 + 1, none⟩ = some (.int .i64 s.size) := by simpa using hd1
        have hse := strCons (s := s) (by omega)
        clear hs0
        go_wp2
        go_ret
        exact ⟨rfl, HB.out⟩
end Go.Proofs.Ytcbhfopabgiiiaa.fnFindEverything
