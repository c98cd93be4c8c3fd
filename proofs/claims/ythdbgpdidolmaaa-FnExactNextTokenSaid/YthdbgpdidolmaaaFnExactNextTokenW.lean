/- FnExactNextToken answers true: the walk. -/
import Derived.Test.YthdbgpdidolmaaaTok
namespace Go.Proofs.Ythdbgpdidolmaaa.fnExactNextToken
open Go.RowKit
set_option maxRecDepth 100000
set_option maxHeartbeats 2000000 in
theorem walk (w : World) (v0 : Value) (L0 : List DfaD) (h0 : DfaS (fun _ => True) w v0 L0) (s1 : ByteArray) (hs1 : s1.size ≤ maxLen) (i2 : Int) (hi2 : -9223372036854775808 ≤ i2 ∧ i2 ≤ 9223372036854775807) :
    Calls Try.prog 11 #[v0, .string s1, .int .i64 i2] w (Yes w) := by
  obtain ⟨a, cap, rfl, hn⟩ := h0.shape
  have H := Lib.hid h0; clear h0
  have hsz : s1.size ≤ 9223372036854775807 := by unfold maxLen at hs1; exact hs1
  have HS := Lib.hid hs1; clear hs1
  by_cases h20 : s1.size ≤ 1048576
  rotate_left
  · go_enter Try.func11, Try.ntmps11
    go_wp2
    go_ret
    exact ⟨rfl, Below.refl _ _⟩
  obtain ⟨r, hr⟩ : ∃ r, r = ntk L0 s1 i2 := ⟨_, rfl⟩
  obtain ⟨⟨q0, q1, q2⟩, qb⟩ := r
  have HR := Lib.hid hr; clear hr
  go_enter Try.func11, Try.ntmps11
  go_wp2_with fail
  refine (szDfaS_c _ L0 _ _ H.out (by omega) (by omega)).mono ?_
  rintro e w1 ⟨m0, rfl, hb1, hm⟩
  have HB1 := Lib.hid hb1; clear hb1
  rcases hm.out with rfl | ⟨hm0, hm1, hsml⟩
  · clear hm
    go_wp2
    go_ret
    exact ⟨rfl, HB1.out⟩
  have HSM := Lib.hid hsml; clear hsml hm
  go_wp2_with fail
  refine (toDfaS_c _ L0 _ (H.out.stay (kpB HB1.out)) HSM.out).mono ?_
  rintro e w2 ⟨v2, rfl, hb2, hd2⟩
  have HB2 := Lib.hid (HB1.out.trans (hb2.mono HB1.out.size)); clear hb2
  go_wp2_with fail
  refine (sNextToken_c _ L0 s1 i2 _ hd2.out HS.out).mono ?_
  rintro e w3 ⟨rfl, hb3⟩
  rw [← HR.out]
  have HB3 := Lib.hid (HB2.out.trans (hb3.mono HB2.out.size)); clear hb3 hd2
  obtain ⟨W3, hW3⟩ : ∃ W, W = w3.alloc (.cells #[.int .i64 q0, .int .i64 q1, .int .i64 q2] 60) := ⟨_, rfl⟩
  have HBW3 : Hid (Below w.heap.size w W3) := by rw [hW3]; exact HB3.out.alloc HB3.out.size _
  have KA : Hid (W3.heap[w3.heap.size]? = some (.cells #[.int .i64 q0, .int .i64 q1, .int .i64 q2] 60 (0, 0))) := by rw [hW3]; exact blkNew _ _ rfl
  have HW3 := Lib.hid hW3; clear hW3
  go_wp2_with fail
  rw [← HW3.out]
  refine (toDfaS_c _ L0 _ (H.out.stay (kpB HBW3.out)) HSM.out).mono ?_
  rintro e w4 ⟨v4, rfl, hb4, hd4⟩
  have HB4 := Lib.hid (HBW3.out.trans (hb4.mono HBW3.out.size))
  have KA4 := Lib.hid (blkBel hb4 KA.out); clear hb4 KA HBW3
  go_wp2_with fail
  refine (NextToken_c _ L0 s1 i2 _ hd4.out HS.out).mono ?_
  rintro e w5 ⟨rfl, hb5⟩
  rw [← HR.out]
  have HB5 := Lib.hid (HB4.out.trans (hb5.mono HB4.out.size))
  have KA5 := Lib.hid (blkBel hb5 KA4.out)
  have HX := Lib.hid (hd4.out.stay (kpB hb5)); clear hb5 hd4 KA4
  obtain ⟨W5, hW5⟩ : ∃ W, W = w5.alloc (.cells #[.int .i64 q0, .int .i64 q1, .int .i64 q2] 60) := ⟨_, rfl⟩
  have hbW5 : Below w5.heap.size w5 W5 := by rw [hW5]; exact (Below.refl _ _).alloc (Nat.le_refl _) _
  have HBW5 := Lib.hid (HB5.out.trans (hbW5.mono HB5.out.size))
  have KA6 := Lib.hid (blkBel hbW5 KA5.out)
  have HX6 := Lib.hid (HX.out.stay (kpB hbW5))
  clear hbW5
  have KB6 : Hid (W5.heap[w5.heap.size]? = some (.cells #[.int .i64 q0, .int .i64 q1, .int .i64 q2] 60 (0, 0))) := by rw [hW5]; exact blkNew _ _ rfl
  have hla : w3.heap.size < w5.heap.size := (Array.getElem?_eq_some_iff.1 KA5.out).1
  obtain ⟨x0, x1, x2⟩ := blk3 KA5.out
  have HW5 := Lib.hid hW5; clear hW5
  have hbz := bneSelf qb
  go_wp2_with fail
  clear x0 x1 x2
  rw [← HW5.out]
  refine (eqToken_c q0 q1 q2 _).mono ?_
  rintro e w6 ⟨bq, rfl, hb6, hq⟩
  cases bq
  · exact (hbF hq trivial).elim
  clear hq
  have HB6 := Lib.hid (HBW5.out.trans (hb6.mono HBW5.out.size))
  have HX7 := Lib.hid (HX6.out.stay (kpB hb6)); clear hb6
  go_wp2_with fail
  refine (toDfaS_c _ L0 _ (H.out.stay (kpB HB6.out)) HSM.out).mono ?_
  rintro e w7 ⟨v7, rfl, hb7, hd7⟩
  have HB7 := Lib.hid (HB6.out.trans (hb7.mono HB6.out.size))
  have HX8 := Lib.hid (HX7.out.stay (kpB hb7)); clear hb7
  go_wp2_with fail
  refine (eqDfaS_c _ _ L0 _ HX8.out hd7.out).mono ?_
  rintro e w8 ⟨bq, rfl, hb8, hq⟩
  cases bq
  · exact (hbF hq trivial).elim
  clear hq
  have HB8 := HB7.out.trans (hb8.mono HB7.out.size)
  go_wp2
  go_ret
  exact ⟨rfl, HB8⟩
end Go.Proofs.Ythdbgpdidolmaaa.fnExactNextToken
