/- Words that are drawn: the reference's l20Word, and the draws that are one word. -/
import Derived.Deep.RegionHeld3
import Derived.Test.YtbcjhiponbfbnaaGE
set_option linter.unusedSimpArgs false
set_option linter.unusedVariables false
set_option linter.unusedSectionVars false
namespace Go.Proofs.Ytbcjhiponbfbnaa
open Go.RowKit
set_option maxRecDepth 100000
variable {S T : Nat → Prop}
/-- A string of at most m bytes was drawn in at most c steps. -/
def DxS (rb p c m : Nat) (w : World) (e : Ending) (w' : World) : Prop := ∃ (s : ByteArray) (p' : Nat), e = .returned (.string s) ∧ s.size ≤ m ∧ p' ≤ p + c ∧ Dr rb w w' ∧ Hid (Rdx w' rb p')
set_option maxRecDepth 100000 in
set_option maxHeartbeats 400000 in
theorem l20Word_x (rb p : Nat) (n : Int) (w : World) (h : Rdx w rb p) (hp : p ≤ 900000) (hn1 : -9223372036854775808 < n) :
    Calls Try.prog 57 #[.pointer (some ⟨rb, 0, none⟩), .int .i64 n] w (DxS rb p 20 9 w) := by
  have H := Lib.hid h; clear h
  go_enter Try.func57, Try.ntmps57
  go_wp2_with fail
  refine (pick_x rb p _ w H.out (by omega)).mono ?_
  rintro e w1 ⟨k0, rfl, hk0, hk1, hd1, hr1, hzz⟩; clear hzz
  go_wp2_with fail
  have hk8 : k0 ≤ 8 := by omega
  obtain ⟨K, rfl⟩ := Int.eq_ofNat_of_zero_le hk0
  clear hk0 hk1
  go_loopw [5, 6] (fun s i wr => ∃ (z : ByteArray) (k p' : Nat), s = .string z ∧ i = .int .i64 k ∧ k ≤ K ∧ z.size + k ≤ 8 ∧ p' + k ≤ p + 1 + K ∧ Dr rb w wr ∧ Hid (Rdx wr rb p')) (fun _ i _ => (intOf i).toNat)
  case atStart => exact ⟨_, K, p + 1, rfl, rfl, by omega, by simp [ByteArray.size]; omega, by omega, hd1, hr1⟩
  case round =>
    obtain ⟨z, k, p', rfl, rfl, hkK, hz, hp', hd, hr⟩ := hrel
    clear hd1 hr1 H
    by_cases hlt : 0 < k
    · go_wp2_with fail
      refine (pick_x rb p' _ _ hr.out (by omega)).mono ?_
      rintro e w2 ⟨r, rfl, hr0, hr1, hd2, hr2, hzz⟩; clear hzz
      have hr3 : r ≤ 2 := by omega
      clear hr1
      have hb := byteStr w2 (97 + r) (UInt8.ofNat (97 + r).toNat) (by rw [UInt8.toNat_ofNat']; omega)
      generalize UInt8.ofNat (97 + r).toNat = c at *
      go_wp2
      go_roundw
      case rel => exact ⟨_, k - 1, p' + 1, rfl, by rw [show ((k - 1 : Nat) : Int) = (k : Int) - 1 by omega], by omega, by rw [ByteArray.size_append]; show z.size + 1 + (k - 1) ≤ 8; omega, by omega, (hd.trans hd2).trans (Dr.below ((Below.refl _ _).alloc (Nat.le_refl _) _)), hr2.out.stay ((Below.refl _ _).alloc (Nat.le_refl _) _)⟩
      case measure => simp [intOf]; omega
    · obtain rfl : k = 0 := by omega
      go_wp2_with fail
      refine (odd_x rb p' _ _ hr.out (by omega) hn1).mono ?_
      rintro e w2 ⟨b, p2, rfl, hp2, hd2, hr2, hzz⟩; clear hzz
      cases b
      · go_wp2
        go_ret
        exact ⟨_, p2, rfl, by omega, by omega, hd.trans hd2, hr2⟩
      · have hlt2 := hr2.out.lt
        go_wp2_with fail
        refine (pick_x rb p2 _ _ (hr2.out.stay ((Below.refl _ _).alloc (Nat.le_refl _) _)) (by omega)).mono ?_
        rintro e w3 ⟨r, rfl, hr0, hr1, hd3, hr3, hzz⟩; clear hzz
        have hcell : ∀ (j : Nat) (v : Value), #[Value.string (z ++ ⟨#[100]⟩), .string (z ++ ⟨#[65]⟩), .string ⟨#[97, 97, 97, 97, 97, 97, 97, 97, 97]⟩][j]? = some v → w3.cell? ⟨w2.heap.size, j, none⟩ = some v :=
          fun j v h => hd3.kp _ _ (by show w2.heap.size ≠ rb; omega) (by rw [World.cell?_alloc_mark]; exact h)
        have hc0 := hcell 0 _ rfl
        have hc1 := hcell 1 _ rfl
        have hc2 := hcell 2 _ rfl
        clear hcell
        have hDr : Dr rb w w3 := ((hd.trans hd2).trans (Dr.below ((Below.refl _ _).alloc (Nat.le_refl _) _))).trans hd3
        clear hd hd2 hd3 hlt2
        rcases (by omega : r = 0 ∨ r = 1 ∨ r = 2) with rfl | rfl | rfl
        all_goals
          clear hr1
          go_wp2
          go_ret
          exact ⟨_, p2 + 1, rfl, by first | (rw [ByteArray.size_append]; show z.size + 1 ≤ 9; omega) | (show 9 ≤ 9; omega), by omega, hDr, hr3⟩
/-- The call answers a short string. -/
def RDw1 (w : World) (e : Ending) (w' : World) : Prop := ∃ s : ByteArray, e = .returned (.string s) ∧ s.size ≤ 9 ∧ Below w.heap.size w w'
theorem DrawWordExpr_c (v : Value) (bs : List UInt8) (w : World) (h : Bytes S w v bs) : Calls Try.prog 18 #[v] w (RDw1 w) := by
  have H := Lib.hid h; clear h
  go_enter Try.func18, Try.ntmps18
  go_wp2_with fail
  refine (open_x _ _ w H.out).mono ?_
  rintro e w2 ⟨rb, rfl, hrb, hb2, hr2⟩
  have hs2 := hb2.size
  go_wp2_with fail
  refine (l20Word_x rb 0 9 w2 hr2.out (by omega) (by omega)).mono ?_
  rintro e w3 ⟨s, p3, rfl, hx, hp3, hd3, hr3⟩
  go_wp2
  go_ret
  exact ⟨_, rfl, hx, hb2.trans (hd3.bel hrb hs2)⟩
theorem DrawWordRank_c (v : Value) (bs : List UInt8) (w : World) (h : Bytes S w v bs) : Calls Try.prog 22 #[v] w (RDw1 w) := by
  have H := Lib.hid h; clear h
  go_enter Try.func22, Try.ntmps22
  go_wp2_with fail
  refine (open_x _ _ w H.out).mono ?_
  rintro e w2 ⟨rb, rfl, hrb, hb2, hr2⟩
  have hs2 := hb2.size
  go_wp2_with fail
  refine (l20Word_x rb 0 9 w2 hr2.out (by omega) (by omega)).mono ?_
  rintro e w3 ⟨s, p3, rfl, hx, hp3, hd3, hr3⟩
  go_wp2
  go_ret
  exact ⟨_, rfl, hx, hb2.trans (hd3.bel hrb hs2)⟩
end Go.Proofs.Ytbcjhiponbfbnaa
