/- The laws' marks: what a mark writes, and that a held mark is found. Sizes of at most 10^12. -/
import Derived.Test.YtgihihnbapnnjaaFam
namespace Go.Proofs.Ytgihihnbapnnjaa
open Go.RowKit
set_option maxRecDepth 100000
variable {S T : Nat → Prop}

set_option maxHeartbeats 400000 in
theorem markIntS_c (v : Value) (n : Nat) (cs : List Value) (k : Int) (w : World) (h : FlW S w v n cs) (hl : cs.length = n) (hk : 0 ≤ k ∧ k ≤ 4000000000000) (hn : n ≤ 1000000000000) :
    Calls Try.prog 22 #[v, .int .i64 k] w fun e w' => e = .returned (.int .i64 (k + n)) ∧ w.grownBy w' v.ownBlock ∧ Hid (FlW S w' v n ((List.range (n)).map fun t : Nat => .int .i64 (k + t))) := by
  obtain ⟨a, cap, rfl, _⟩ := h.shape
  have H := Lib.hid h; clear h
  have Hl := Lib.hid hl; clear hl
  obtain ⟨hk0, hk1⟩ := hk
  go_enter Try.func22, Try.ntmps22
  go_wp2
  go_loopw [1, 5] (fun x i wr => ∃ j : Nat, j ≤ n ∧ i = .int .i64 j ∧ x = .int .i64 (k + j) ∧ w.grownBy wr (Value.slice a n cap).ownBlock ∧ Hid (FlW S wr (.slice a n cap) n (mkd cs (fun t : Nat => .int .i64 (k + t)) (j)))) (fun _ i _ => n - (intOf i).toNat)
  case atStart => exact ⟨0, by omega, rfl, by simp, grownRefl _ _, by rw [mkd_zero]; exact H⟩
  case round =>
    obtain ⟨j, hj, rfl, rfl, hg, hr⟩ := hrel
    by_cases hlt : j < n
    · have hlen := mkd_length cs (fun t : Nat => .int .i64 (k + t)) (j) (by rw [Hl.out]; omega)
      obtain ⟨b, off, rfl, _, c0, f0⟩ := hr.out.at (i := j) (by rw [hlen, Hl.out]; omega)
      have hs0 := hr.out.set (j) (.int .i64 (k + j)) (by rw [hlen, Hl.out]; omega)
      have e0 := mkd_set cs (fun t : Nat => .int .i64 (k + t)) (j) (by rw [Hl.out]; omega)
      rw [e0] at hs0
      obtain ⟨u0, d0⟩ : ∃ u, wr.cell? ⟨b, off + j, none⟩ = some u := ⟨_, c0⟩
      have g0 := f0 (off + j)
      have Hs := Lib.hid hs0
      have hG : w.grownBy (wr.setCell ⟨b, off + j, none⟩ (.int .i64 (k + j))) (some b) := (grownTrans hg (grownSet _ _ _ _))
      clear c0 hs0 e0 hlen hr f0 hg H
      go_wp2
      go_roundw
      case rel => exact ⟨j + 1, by omega, by go_num, by rw [show k + (j : Int) + 1 = k + ((j + 1 : Nat) : Int) by omega], hG, Hs⟩
      case measure => simp [intOf]; omega
    · obtain rfl : j = n := by omega
      go_wp2
      go_ret
      refine ⟨rfl, hg, ?_⟩
      rw [← mkd_all cs _ _ Hl.out]
      exact hr
set_option maxHeartbeats 400000 in
theorem heldIntS_c (v : Value) (n : Nat) (k : Int) (w : World) (h : Fl S w v n ((List.range (n)).map fun t : Nat => .int .i64 (k + t))) (hk : 0 ≤ k ∧ k ≤ 4000000000000) (hn : n ≤ 1000000000000) :
    Calls Try.prog 23 #[v, .int .i64 k] w fun e w' => e = .returned (.int .i64 (k + n)) ∧ w = w' := by
  obtain ⟨a, cap, rfl, _⟩ := h.shape
  have H := Lib.hid h; clear h
  obtain ⟨hk0, hk1⟩ := hk
  go_enter Try.func23, Try.ntmps23
  go_wp2
  go_loop [1, 5] (fun x i => ∃ j : Nat, j ≤ n ∧ i = .int .i64 j ∧ x = .int .i64 (k + j)) (fun _ i => n - (intOf i).toNat)
  case atStart => exact ⟨0, by omega, rfl, by simp⟩
  case round =>
    obtain ⟨j, hj, rfl, rfl⟩ := hrel
    by_cases hlt : j < n
    · obtain ⟨b, off, rfl, c0⟩ := H.out.at (i := j) (by simp; omega)
      have d0 : w.cell? ⟨b, off + j, none⟩ = some (.int .i64 (k + j)) := by rw [show off + j = off + (j) by omega, c0, List.getElem_map, List.getElem_range] <;> (congr 2; omega)
      have n0 := bneS (k + (j : Int))
      clear c0
      go_wp2
      go_round
      case rel => exact ⟨j + 1, by omega, by go_num, by rw [show k + (j : Int) + 1 = k + ((j + 1 : Nat) : Int) by omega]⟩
      case measure => simp [intOf]; omega
    · obtain rfl : j = n := by omega
      go_wp2
      go_ret
      exact ⟨rfl, rfl⟩
set_option maxHeartbeats 400000 in
theorem markPartS_c (v : Value) (n : Nat) (cs : List Value) (k : Int) (w : World) (h : FlW S w v n cs) (hl : cs.length = 2 * n) (hk : 0 ≤ k ∧ k ≤ 4000000000000) (hn : n ≤ 1000000000000) :
    Calls Try.prog 21 #[v, .int .i64 k] w fun e w' => e = .returned (.int .i64 (k + 2 * n)) ∧ w.grownBy w' v.ownBlock ∧ Hid (FlW S w' v n ((List.range (2 * n)).map fun t : Nat => .int .i64 (k + t))) := by
  obtain ⟨a, cap, rfl, _⟩ := h.shape
  have H := Lib.hid h; clear h
  have Hl := Lib.hid hl; clear hl
  obtain ⟨hk0, hk1⟩ := hk
  go_enter Try.func21, Try.ntmps21
  go_wp2
  go_loopw [1, 5] (fun x i wr => ∃ j : Nat, j ≤ n ∧ i = .int .i64 j ∧ x = .int .i64 (k + 2 * j) ∧ w.grownBy wr (Value.slice a n cap).ownBlock ∧ Hid (FlW S wr (.slice a n cap) n (mkd cs (fun t : Nat => .int .i64 (k + t)) (2 * j)))) (fun _ i _ => n - (intOf i).toNat)
  case atStart => exact ⟨0, by omega, rfl, by simp, grownRefl _ _, by rw [mkd_zero]; exact H⟩
  case round =>
    obtain ⟨j, hj, rfl, rfl, hg, hr⟩ := hrel
    by_cases hlt : j < n
    · have hlen := mkd_length cs (fun t : Nat => .int .i64 (k + t)) (2 * j) (by rw [Hl.out]; omega)
      obtain ⟨b, off, rfl, _, c0, f0⟩ := hr.out.at (i := j * 2) (by rw [hlen, Hl.out]; omega)
      obtain ⟨b', off', e, _, c1, _⟩ := hr.out.at (i := j * 2 + 1) (by rw [hlen, Hl.out]; omega)
      cases e
      have hs0 := hr.out.set (2 * j) (.int .i64 (k + 2 * j)) (by rw [hlen, Hl.out]; omega)
      have e0 := mkd_set cs (fun t : Nat => .int .i64 (k + t)) (2 * j) (by rw [Hl.out]; omega)
      rw [show k + ((2 * j : Nat) : Int) = k + 2 * (j : Int) by omega] at e0
      rw [e0] at hs0
      have hlen1 := mkd_length cs (fun t : Nat => .int .i64 (k + t)) (2 * j + 1) (by rw [Hl.out]; omega)
      have hs1 := hs0.set (2 * j + 1) (.int .i64 (k + 2 * j + 1)) (by rw [hlen1, Hl.out]; omega)
      have e1 := mkd_set cs (fun t : Nat => .int .i64 (k + t)) (2 * j + 1) (by rw [Hl.out]; omega)
      rw [show k + ((2 * j + 1 : Nat) : Int) = k + 2 * (j : Int) + 1 by omega] at e1
      rw [e1] at hs1
      obtain ⟨u0, d0⟩ : ∃ u, wr.cell? ⟨b, off + j * 2, none⟩ = some u := ⟨_, c0⟩
      have g0 := f0 (off + j * 2)
      obtain ⟨u1, d1⟩ : ∃ u, wr.cell? ⟨b, off + j * 2 + 1, none⟩ = some u := ⟨_, c1⟩
      have g1 := f0 (off + j * 2 + 1)
      have Hs := Lib.hid hs1
      rw [show off + 2 * j = off + j * 2 by omega, show off + (2 * j + 1) = off + j * 2 + 1 by omega] at Hs
      have hG : w.grownBy ((wr.setCell ⟨b, off + j * 2, none⟩ (.int .i64 (k + 2 * j))).setCell ⟨b, off + j * 2 + 1, none⟩ (.int .i64 (k + 2 * j + 1))) (some b) := (grownTrans (grownTrans hg (grownSet _ _ _ _)) (grownSet _ _ _ _))
      clear c0 hs0 e0 c1 hs1 e1 hlen1 hlen hr f0 hg H
      go_wp2
      go_roundw
      case rel => exact ⟨j + 1, by omega, by go_num, by rw [show k + 2 * (j : Int) + 1 + 1 = k + 2 * ((j + 1 : Nat) : Int) by omega], hG, Hs⟩
      case measure => simp [intOf]; omega
    · obtain rfl : j = n := by omega
      go_wp2
      go_ret
      refine ⟨rfl, hg, ?_⟩
      rw [← mkd_all cs _ _ Hl.out]
      exact hr
set_option maxHeartbeats 400000 in
theorem heldPartS_c (v : Value) (n : Nat) (k : Int) (w : World) (h : Fl S w v n ((List.range (2 * n)).map fun t : Nat => .int .i64 (k + t))) (hk : 0 ≤ k ∧ k ≤ 4000000000000) (hn : n ≤ 1000000000000) :
    Calls Try.prog 30 #[v, .int .i64 k] w fun e w' => e = .returned (.int .i64 (k + 2 * n)) ∧ w = w' := by
  obtain ⟨a, cap, rfl, _⟩ := h.shape
  have H := Lib.hid h; clear h
  obtain ⟨hk0, hk1⟩ := hk
  go_enter Try.func30, Try.ntmps30
  go_wp2
  go_loop [1, 5] (fun x i => ∃ j : Nat, j ≤ n ∧ i = .int .i64 j ∧ x = .int .i64 (k + 2 * j)) (fun _ i => n - (intOf i).toNat)
  case atStart => exact ⟨0, by omega, rfl, by simp⟩
  case round =>
    obtain ⟨j, hj, rfl, rfl⟩ := hrel
    by_cases hlt : j < n
    · obtain ⟨b, off, rfl, c0⟩ := H.out.at (i := j * 2) (by simp; omega)
      obtain ⟨b', off', e, c1⟩ := H.out.at (i := j * 2 + 1) (by simp; omega)
      cases e
      have d0 : w.cell? ⟨b, off + j * 2, none⟩ = some (.int .i64 (k + 2 * j)) := by rw [show off + j * 2 = off + (j * 2) by omega, c0, List.getElem_map, List.getElem_range] <;> (congr 2; omega)
      have n0 := bneS (k + 2 * (j : Int))
      have d1 : w.cell? ⟨b, off + j * 2 + 1, none⟩ = some (.int .i64 (k + 2 * j + 1)) := by rw [show off + j * 2 + 1 = off + (j * 2 + 1) by omega, c1, List.getElem_map, List.getElem_range] <;> (congr 2; omega)
      have n1 := bneS (k + 2 * (j : Int) + 1)
      clear c0 c1
      go_wp2
      go_round
      case rel => exact ⟨j + 1, by omega, by go_num, by rw [show k + 2 * (j : Int) + 1 + 1 = k + 2 * ((j + 1 : Nat) : Int) by omega]⟩
      case measure => simp [intOf]; omega
    · obtain rfl : j = n := by omega
      go_wp2
      go_ret
      exact ⟨rfl, rfl⟩
set_option maxHeartbeats 400000 in
theorem markMoveS_c (v : Value) (n : Nat) (cs : List Value) (k : Int) (w : World) (h : FlW S w v n cs) (hl : cs.length = 3 * n) (hk : 0 ≤ k ∧ k ≤ 4000000000000) (hn : n ≤ 1000000000000) :
    Calls Try.prog 81 #[v, .int .i64 k] w fun e w' => e = .returned (.int .i64 (k + 3 * n)) ∧ w.grownBy w' v.ownBlock ∧ Hid (FlW S w' v n ((List.range (3 * n)).map fun t : Nat => .int .i64 (k + t))) := by
  obtain ⟨a, cap, rfl, _⟩ := h.shape
  have H := Lib.hid h; clear h
  have Hl := Lib.hid hl; clear hl
  obtain ⟨hk0, hk1⟩ := hk
  go_enter Try.func81, Try.ntmps81
  go_wp2
  go_loopw [1, 5] (fun x i wr => ∃ j : Nat, j ≤ n ∧ i = .int .i64 j ∧ x = .int .i64 (k + 3 * j) ∧ w.grownBy wr (Value.slice a n cap).ownBlock ∧ Hid (FlW S wr (.slice a n cap) n (mkd cs (fun t : Nat => .int .i64 (k + t)) (3 * j)))) (fun _ i _ => n - (intOf i).toNat)
  case atStart => exact ⟨0, by omega, rfl, by simp, grownRefl _ _, by rw [mkd_zero]; exact H⟩
  case round =>
    obtain ⟨j, hj, rfl, rfl, hg, hr⟩ := hrel
    by_cases hlt : j < n
    · have hlen := mkd_length cs (fun t : Nat => .int .i64 (k + t)) (3 * j) (by rw [Hl.out]; omega)
      obtain ⟨b, off, rfl, _, c0, f0⟩ := hr.out.at (i := j * 3) (by rw [hlen, Hl.out]; omega)
      obtain ⟨b', off', e, _, c1, _⟩ := hr.out.at (i := j * 3 + 1) (by rw [hlen, Hl.out]; omega)
      cases e
      obtain ⟨b', off', e, _, c2, _⟩ := hr.out.at (i := j * 3 + 2) (by rw [hlen, Hl.out]; omega)
      cases e
      have hs0 := hr.out.set (3 * j) (.int .i64 (k + 3 * j)) (by rw [hlen, Hl.out]; omega)
      have e0 := mkd_set cs (fun t : Nat => .int .i64 (k + t)) (3 * j) (by rw [Hl.out]; omega)
      rw [show k + ((3 * j : Nat) : Int) = k + 3 * (j : Int) by omega] at e0
      rw [e0] at hs0
      have hlen1 := mkd_length cs (fun t : Nat => .int .i64 (k + t)) (3 * j + 1) (by rw [Hl.out]; omega)
      have hs1 := hs0.set (3 * j + 1) (.int .i64 (k + 3 * j + 1)) (by rw [hlen1, Hl.out]; omega)
      have e1 := mkd_set cs (fun t : Nat => .int .i64 (k + t)) (3 * j + 1) (by rw [Hl.out]; omega)
      rw [show k + ((3 * j + 1 : Nat) : Int) = k + 3 * (j : Int) + 1 by omega] at e1
      rw [e1] at hs1
      have hlen2 := mkd_length cs (fun t : Nat => .int .i64 (k + t)) (3 * j + 2) (by rw [Hl.out]; omega)
      have hs2 := hs1.set (3 * j + 2) (.int .i64 (k + 3 * j + 1 + 1)) (by rw [hlen2, Hl.out]; omega)
      have e2 := mkd_set cs (fun t : Nat => .int .i64 (k + t)) (3 * j + 2) (by rw [Hl.out]; omega)
      rw [show k + ((3 * j + 2 : Nat) : Int) = k + 3 * (j : Int) + 1 + 1 by omega] at e2
      rw [e2] at hs2
      obtain ⟨u0, d0⟩ : ∃ u, wr.cell? ⟨b, off + j * 3, none⟩ = some u := ⟨_, c0⟩
      have g0 := f0 (off + j * 3)
      obtain ⟨u1, d1⟩ : ∃ u, wr.cell? ⟨b, off + j * 3 + 1, none⟩ = some u := ⟨_, c1⟩
      have g1 := f0 (off + j * 3 + 1)
      obtain ⟨u2, d2⟩ : ∃ u, wr.cell? ⟨b, off + j * 3 + 2, none⟩ = some u := ⟨_, c2⟩
      have g2 := f0 (off + j * 3 + 2)
      have Hs := Lib.hid hs2
      rw [show off + 3 * j = off + j * 3 by omega, show off + (3 * j + 1) = off + j * 3 + 1 by omega, show off + (3 * j + 2) = off + j * 3 + 2 by omega] at Hs
      have hG : w.grownBy (((wr.setCell ⟨b, off + j * 3, none⟩ (.int .i64 (k + 3 * j))).setCell ⟨b, off + j * 3 + 1, none⟩ (.int .i64 (k + 3 * j + 1))).setCell ⟨b, off + j * 3 + 2, none⟩ (.int .i64 (k + 3 * j + 1 + 1))) (some b) := (grownTrans (grownTrans (grownTrans hg (grownSet _ _ _ _)) (grownSet _ _ _ _)) (grownSet _ _ _ _))
      clear c0 hs0 e0 c1 hs1 e1 c2 hs2 e2 hlen1 hlen2 hlen hr f0 hg H
      go_wp2
      go_roundw
      case rel => exact ⟨j + 1, by omega, by go_num, by rw [show k + 3 * (j : Int) + 1 + 1 + 1 = k + 3 * ((j + 1 : Nat) : Int) by omega], hG, Hs⟩
      case measure => simp [intOf]; omega
    · obtain rfl : j = n := by omega
      go_wp2
      go_ret
      refine ⟨rfl, hg, ?_⟩
      rw [← mkd_all cs _ _ Hl.out]
      exact hr
set_option maxHeartbeats 400000 in
theorem heldMoveS_c (v : Value) (n : Nat) (k : Int) (w : World) (h : Fl S w v n ((List.range (3 * n)).map fun t : Nat => .int .i64 (k + t))) (hk : 0 ≤ k ∧ k ≤ 4000000000000) (hn : n ≤ 1000000000000) :
    Calls Try.prog 82 #[v, .int .i64 k] w fun e w' => e = .returned (.int .i64 (k + 3 * n)) ∧ w = w' := by
  obtain ⟨a, cap, rfl, _⟩ := h.shape
  have H := Lib.hid h; clear h
  obtain ⟨hk0, hk1⟩ := hk
  go_enter Try.func82, Try.ntmps82
  go_wp2
  go_loop [1, 5] (fun x i => ∃ j : Nat, j ≤ n ∧ i = .int .i64 j ∧ x = .int .i64 (k + 3 * j)) (fun _ i => n - (intOf i).toNat)
  case atStart => exact ⟨0, by omega, rfl, by simp⟩
  case round =>
    obtain ⟨j, hj, rfl, rfl⟩ := hrel
    by_cases hlt : j < n
    · obtain ⟨b, off, rfl, c0⟩ := H.out.at (i := j * 3) (by simp; omega)
      obtain ⟨b', off', e, c1⟩ := H.out.at (i := j * 3 + 1) (by simp; omega)
      cases e
      obtain ⟨b', off', e, c2⟩ := H.out.at (i := j * 3 + 2) (by simp; omega)
      cases e
      have d0 : w.cell? ⟨b, off + j * 3, none⟩ = some (.int .i64 (k + 3 * j)) := by rw [show off + j * 3 = off + (j * 3) by omega, c0, List.getElem_map, List.getElem_range] <;> (congr 2; omega)
      have n0 := bneS (k + 3 * (j : Int))
      have d1 : w.cell? ⟨b, off + j * 3 + 1, none⟩ = some (.int .i64 (k + 3 * j + 1)) := by rw [show off + j * 3 + 1 = off + (j * 3 + 1) by omega, c1, List.getElem_map, List.getElem_range] <;> (congr 2; omega)
      have n1 := bneS (k + 3 * (j : Int) + 1)
      have d2 : w.cell? ⟨b, off + j * 3 + 2, none⟩ = some (.int .i64 (k + 3 * j + 1 + 1)) := by rw [show off + j * 3 + 2 = off + (j * 3 + 2) by omega, c2, List.getElem_map, List.getElem_range] <;> (congr 2; omega)
      have n2 := bneS (k + 3 * (j : Int) + 1 + 1)
      clear c0 c1 c2
      go_wp2
      go_round
      case rel => exact ⟨j + 1, by omega, by go_num, by rw [show k + 3 * (j : Int) + 1 + 1 + 1 = k + 3 * ((j + 1 : Nat) : Int) by omega]⟩
      case measure => simp [intOf]; omega
    · obtain rfl : j = n := by omega
      go_wp2
      go_ret
      exact ⟨rfl, rfl⟩
end Go.Proofs.Ytgihihnbapnnjaa
