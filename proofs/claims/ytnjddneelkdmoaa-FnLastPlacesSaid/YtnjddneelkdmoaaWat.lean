/- The words with the numbers 1 to 12; the laws' plain. -/
import Derived.Test.YtnjddneelkdmoaaLpl
import Derived.Test.YtnjddneelkdmoaaFtq
set_option linter.unusedSimpArgs false
set_option linter.unusedVariables false
set_option linter.unusedSectionVars false
namespace Go.Proofs.Ytnjddneelkdmoaa
open Go.RowKit
set_option maxRecDepth 100000
variable {S T : Nat → Prop}
theorem letterQ_c (c : Nat) (w : World) (hc : c < 3) : Calls Try.prog 94 #[.int .i64 c] w (fun e w' => ∃ q : ByteArray, e = .returned (.string q) ∧ w' = w ∧ Hid (letS q ∧ q.size = 1)) := by
  rcases (by omega : c = 0 ∨ c = 1 ∨ c = 2) with rfl | rfl | rfl
  · go_enter Try.func94, Try.ntmps94
    go_wp2
    go_ret
    refine ⟨⟨#[97]⟩, rfl, rfl, Lib.hid ⟨fun j hj => ?_, rfl⟩⟩
    have hj0 : j = 0 := by have h : j < 1 := hj; omega
    subst hj0
    show (97 : Int) ≤ (((97 : UInt8).toNat : Nat) : Int) ∧ (((97 : UInt8).toNat : Nat) : Int) ≤ 99
    decide
  · go_enter Try.func94, Try.ntmps94
    go_wp2
    go_ret
    refine ⟨⟨#[98]⟩, rfl, rfl, Lib.hid ⟨fun j hj => ?_, rfl⟩⟩
    have hj0 : j = 0 := by have h : j < 1 := hj; omega
    subst hj0
    show (97 : Int) ≤ (((98 : UInt8).toNat : Nat) : Int) ∧ (((98 : UInt8).toNat : Nat) : Int) ≤ 99
    decide
  · go_enter Try.func94, Try.ntmps94
    go_wp2
    go_ret
    refine ⟨⟨#[99]⟩, rfl, rfl, Lib.hid ⟨fun j hj => ?_, rfl⟩⟩
    have hj0 : j = 0 := by have h : j < 1 := hj; omega
    subst hj0
    show (97 : Int) ≤ (((99 : UInt8).toNat : Nat) : Int) ∧ (((99 : UInt8).toNat : Nat) : Int) ≤ 99
    decide
set_option maxHeartbeats 1000000 in
theorem WordAt_c (n : Nat) (hn1 : 1 ≤ n) (hn : n ≤ 12) (w : World) : Calls Try.prog 35 #[.int .i64 n] w (fun e w' => ∃ s : ByteArray, e = .returned (.tuple #[.string s, .bool true]) ∧ w' = w ∧ Hid (letS s ∧ 0 < s.size ∧ s.size ≤ 8)) := by
  go_enter Try.func35, Try.ntmps35
  go_wp2_with fail
  refine (shorter_c 9 w (by omega)).mono ?_
  rintro e w1 ⟨m, rfl, rfl, hm⟩
  obtain rfl : m = 9841 := by rw [hm.out.1]; decide
  clear hm
  go_wp2_with fail
  refine (within_c n 0 9840 _).mono ?_
  rintro e w2 ⟨b, rfl, rfl, hb⟩
  obtain rfl : b = true := hb.out.2 ⟨by omega, by omega⟩
  clear hb
  go_wp2_with fail
  go_loop [4] (fun i => ∃ L : Nat, L ≤ 2 ∧ i = .int .i64 L ∧ shr L ≤ n) (fun i => 3 - (intOf i).toNat)
  case atStart => exact ⟨0, by omega, rfl, by simp [shr]⟩
  case round =>
    obtain ⟨L, hL, rfl, hs⟩ := hrel
    have hS1 : shr 1 = 1 := by decide
    have hS2 : shr 2 = 4 := by decide
    have hS3 : shr 3 = 13 := by decide
    have hwr : IntKind.i64.wrap ((L : Int) + 1) = ((L + 1 : Nat) : Int) := by rw [IntWalk.i64_in _ (by omega)]; rfl
    go_wp2_with fail
    refine (shorter_c (L + 1) w (by omega)).mono ?_
    rintro e w1 ⟨m, rfl, rfl, hm⟩
    have hmv := hm.out.1
    clear hm
    by_cases hge : (n : Int) ≥ m
    · have hL2 : L + 1 ≤ 2 := by
        rcases (by omega : L = 0 ∨ L = 1 ∨ L = 2) with rfl | rfl | rfl
        · omega
        · omega
        · rw [hmv, hS3] at hge; omega
      have Hs : Hid (shr (L + 1) ≤ n) := Lib.hid (by rw [← hmv]; exact hge)
      clear hmv hs hS1 hS2 hS3
      go_wp2_with fail
      go_round
      case rel => exact ⟨L + 1, hL2, by go_num, Hs.out⟩
      case measure => simp [intOf]; omega
    · have hL1 : 1 ≤ L := by
        rcases Nat.eq_zero_or_pos L with rfl | h
        · rw [hmv, hS1] at hge; omega
        · exact h
      have hLL := Lib.hid hs
      clear hmv hwr hs hS1 hS2 hS3
      go_wp2_with fail
      refine (shorter_c L w (by omega)).mono ?_
      rintro e w1 ⟨m2, rfl, rfl, hm⟩
      have hm2 : m2 ≤ n := by rw [hm.out.1]; exact hLL.out
      have hm0 := hm.out.2.1
      clear hm
      obtain ⟨x0, hx0⟩ : ∃ x0 : Nat, (n : Int) - m2 = x0 := ⟨((n : Int) - m2).toNat, by omega⟩
      have hx12 : x0 ≤ 12 := by omega
      have hwx : IntKind.i64.wrap (x0 : Int) = (x0 : Int) := IntWalk.i64_in _ (by omega)
      go_wp2_with fail
      go_loop [0, 5, 23] (fun x st i => ∃ (j m : Nat) (s : ByteArray), j ≤ L ∧ i = .int .i64 j ∧ x = .int .i64 m ∧ m ≤ 12 ∧ st = .string s ∧ Hid (letS s) ∧ s.size = j) (fun _ _ i => L - (intOf i).toNat)
      case atStart => exact ⟨0, x0, ByteArray.empty, by omega, rfl, rfl, hx12, rfl, Lib.hid (fun j hj => absurd hj (Nat.not_lt_zero _)), rfl⟩
      case round =>
        obtain ⟨j, m, s, hj, rfl, rfl, hm12, rfl, hls, hsz⟩ := hrel
        by_cases hlt : j < L
        · have hjI : (j : Int) < (L : Int) := by omega
          have hmod : (m : Int).tmod 3 = ((m % 3 : Nat) : Int) := rfl
          have hdiv : (m : Int).tdiv 3 = ((m / 3 : Nat) : Int) := rfl
          have hw1 : IntKind.i64.wrap ((m % 3 : Nat) : Int) = ((m % 3 : Nat) : Int) := IntWalk.i64_in _ (by omega)
          have hw2 : IntKind.i64.wrap ((m / 3 : Nat) : Int) = ((m / 3 : Nat) : Int) := IntWalk.i64_in _ (by omega)
          go_wp2_with fail
          refine (letterQ_c (m % 3) w (by omega)).mono ?_
          rintro e w1 ⟨q, rfl, rfl, hq⟩
          have hq1 := hq.out.2
          have hcc : ¬ (9223372036854775807 < q.size + s.size) := by omega
          go_wp2_with fail
          go_round
          case rel => exact ⟨j + 1, m / 3, q ++ s, by omega, by go_num, rfl, by omega, rfl, Lib.hid (fun i hi => by
            rw [ByteArray.size_append] at hi
            by_cases h1 : i < q.size
            · rw [ByteArray.getElem_append_left h1]; exact hq.out.1 i h1
            · rw [ByteArray.getElem_append_right (by omega)]; exact hls.out _ (by omega)), by rw [ByteArray.size_append]; omega⟩
          case measure => simp [intOf]; omega
        · obtain rfl : j = L := by omega
          go_wp2
          go_ret2
          exact ⟨s, rfl, rfl, Lib.hid ⟨hls.out, by omega, by omega⟩⟩
set_option maxHeartbeats 400000 in
theorem plain_c (v : Value) (e : List (Int × Int)) (w : World) (h : Pairs S w v e) (hn : e.length ≤ 1048576) : Calls Try.prog 34 #[v] w (RBn w (ExprOk e ∧ plainE e)) := by
  obtain ⟨a, cap, rfl, _⟩ := h.shape
  have H := Lib.hid h; clear h
  go_enter Try.func34, Try.ntmps34
  go_wp2_with fail
  go_loop [3] (fun i => ∃ k : Nat, k ≤ e.length ∧ i = .int .i64 k ∧ Hid (∀ j (hj : j < e.length), j < k → e[j].1 ≠ 6 ∧ e[j].1 ≠ 7)) (fun i => e.length - (intOf i).toNat)
  case atStart => exact ⟨0, by omega, rfl, fun j _ hj => absurd hj (Nat.not_lt_zero _)⟩
  case round =>
    obtain ⟨k, hk, rfl, hr⟩ := hrel
    by_cases hlt : k < e.length
    · have hkI : (k : Int) < (e.length : Int) := by omega
      obtain ⟨b, off, rfl, c0, c1⟩ := H.out.at hlt
      by_cases h6 : e[k].1 = 6
      · have HNo : Hid (¬ plainE e) := Lib.hid (fun h => (h _ (List.getElem_mem hlt)).1 h6)
        rw [h6] at c0
        clear h6
        go_wp2
        go_ret
        exact RBn.mk (Below.refl _ _) ⟨nofun, fun h => absurd h.2 HNo.out⟩
      · by_cases h7 : e[k].1 = 7
        · have HNo : Hid (¬ plainE e) := Lib.hid (fun h => (h _ (List.getElem_mem hlt)).2 h7)
          rw [h7] at c0
          clear h7 h6
          go_wp2
          go_ret
          exact RBn.mk (Below.refl _ _) ⟨nofun, fun h => absurd h.2 HNo.out⟩
        · have HN : Hid (∀ j (hj : j < e.length), j < k + 1 → e[j].1 ≠ 6 ∧ e[j].1 ≠ 7) := Lib.hid (fun j hj hjk => by
            rcases Nat.lt_succ_iff_lt_or_eq.1 hjk with h | rfl
            · exact hr.out j hj h
            · exact ⟨h6, h7⟩)
          have e6 : (e[k].1 == 6) = false := by simpa using h6
          have e7 : (e[k].1 == 7) = false := by simpa using h7
          generalize e[k].1 = x at *
          clear h6 h7
          go_wp2_with fail
          go_round
          case rel => exact ⟨k + 1, by omega, by go_num, HN⟩
          case measure => simp [intOf]; omega
    · obtain rfl : k = e.length := by omega
      have HP : Hid (plainE e) := Lib.hid (fun p hp => by
        obtain ⟨j, hj, rfl⟩ := List.getElem_of_mem hp
        exact hr.out j hj hj)
      go_wp2_with fail
      refine (sExprValid_c _ e w H.out hn).mono ?_
      rintro x w1 ⟨b1, rfl, hb, hv⟩
      cases b1
      · have hno := Lib.hid (hbF hv); clear hv
        go_wp2
        go_ret
        exact RBn.mk hb ⟨nofun, fun h => absurd h.1 hno.out⟩
      · have hyes := Lib.hid (hbT hv); clear hv
        go_wp2
        go_ret
        exact RBn.mk hb ⟨fun _ => ⟨hyes.out, HP.out⟩, fun _ => rfl⟩
end Go.Proofs.Ytnjddneelkdmoaa
