/- Automata with choices: sizes, copies, comparing, marks. -/
import Derived.Test.YtgihihnbapnnjaaNfw
import Derived.Test.YtgihihnbapnnjaaFa4
import Derived.Test.YtgihihnbapnnjaaFam
import Derived.Test.YtgihihnbapnnjaaAp2
import Derived.StillTailTactics
namespace Go.Proofs.Ytgihihnbapnnjaa
open Go.RowKit
set_option maxRecDepth 100000
variable {S T : Nat → Prop}
/-- Three slices in blocks of their own, that may be written. -/
def NfW (S : Nat → Prop) (w : World) (vm vf ve : Value) (n1 n2 n3 : Nat) (c1 c2 c3 : List Value) : Prop :=
  ∃ p q r, (S p ∧ S q ∧ S r) ∧ (p ≠ q ∧ p ≠ r ∧ q ≠ r) ∧ FlW (· = p) w vm n1 c1 ∧ FlW (· = q) w vf n2 c2 ∧ FlW (· = r) w ve n3 c3
/-- An automaton with choices that may be written. -/
def NfaW (S : Nat → Prop) (w : World) (vm vf ve : Value) (D : NfaD) : Prop :=
  NfW S w vm vf ve D.moves.length D.firsts.length D.ends.length (cells3 D.moves) (D.firsts.map (.int .i64 ·)) (D.ends.map (.int .i64 ·))
theorem NfW.stay {w w' : World} {vm vf ve : Value} {n1 n2 n3 : Nat} {c1 c2 c3 : List Value} (h : NfW S w vm vf ve n1 n2 n3 c1 c2 c3) (k : Ks S w w') : NfW S w' vm vf ve n1 n2 n3 c1 c2 c3 := by
  obtain ⟨p, q, r, hS, hne, h1, h2, h3⟩ := h
  exact ⟨p, q, r, hS, hne, h1.stay (k.mono fun b e => by subst e; exact hS.1), h2.stay (k.mono fun b e => by subst e; exact hS.2.1), h3.stay (k.mono fun b e => by subst e; exact hS.2.2)⟩
theorem NfaW.stay {w w' : World} {vm vf ve : Value} {D : NfaD} (h : NfaW S w vm vf ve D) (k : Ks S w w') : NfaW S w' vm vf ve D := NfW.stay h k
theorem NfaW.rd {w : World} {vm vf ve : Value} {D : NfaD} (h : NfaW S w vm vf ve D) : NfaR S w vm vf ve D := by
  obtain ⟨p, q, r, hS, hne, h1, h2, h3⟩ := h
  exact ⟨h1.fl.mono fun b e => by subst e; exact hS.1, h2.fl.mono fun b e => by subst e; exact hS.2.1, h3.fl.mono fun b e => by subst e; exact hS.2.2⟩
def smallN (D : NfaD) : Prop := D.moves.length ≤ 1048576 ∧ D.firsts.length ≤ 1048576 ∧ D.ends.length ≤ 1048576
set_option maxHeartbeats 400000 in
theorem szNfa_c (vm vf ve : Value) (D : NfaD) (left : Int) (w : World) (h : NfaR S w vm vf ve D) (h0 : 0 ≤ left) (h1 : left ≤ 1048576) :
    Calls Try.prog 31 #[.agg #[.int .i64 D.states, vm, vf, ve], .int .i64 left] w (Sz w left (smallN D)) := by
  have H := Lib.hid h; clear h
  obtain ⟨W, hW⟩ : ∃ W, W = w.alloc (.cells #[.int .i64 D.states, vm, vf, ve] 42) := ⟨_, rfl⟩
  have Hb0 : Hid (Below w.heap.size w W) := by rw [hW]; exact (Below.refl _ _).alloc (Nat.le_refl _) _
  have K0 : Hid (W.heap[w.heap.size]? = some (.cells #[.int .i64 D.states, vm, vf, ve] 42 (0, 0))) := by rw [hW]; exact blkNew _ _ rfl
  have HW := Lib.hid hW; clear hW
  obtain ⟨c0, c1, c2, c3⟩ := blk4 K0.out
  rw [HW.out] at c0 c1 c2 c3
  go_enter Try.func31, Try.ntmps31
  go_wp2_with fail
  clear c0 c1 c2 c3
  rw [← HW.out]
  clear HW
  refine (szMoveS_c vm _ left _ (H.out.1.stay (kpB Hb0.out)) h0 h1).mono ?_
  rintro e w1 ⟨m, rfl, hb1, hm⟩
  have HB1 := Lib.hid (Hb0.out.trans (hb1.mono Hb0.out.size))
  have K1 := Lib.hid (blkBel hb1 K0.out)
  clear hb1 K0 Hb0
  rcases hm.out with rfl | ⟨hm0, hm1, hm2⟩
  · clear hm
    go_wp2
    go_ret
    exact Sz.no HB1.out
  have Hm2 := Lib.hid hm2
  clear hm hm2
  obtain ⟨c0, c1, c2, c3⟩ := blk4 K1.out
  go_wp2_with fail
  clear c0 c1 c2 c3
  refine (szIntS_c vf _ m _ (H.out.2.1.stay (kpB HB1.out)) hm0 (by omega)).mono ?_
  rintro e w2 ⟨m2, rfl, hb2, hk⟩
  have HB2 := Lib.hid (HB1.out.trans (hb2.mono HB1.out.size))
  have K2 := Lib.hid (blkBel hb2 K1.out)
  clear hb2 K1 HB1
  rcases hk.out with rfl | ⟨hk0, hk1, hk2⟩
  · clear hk
    go_wp2
    go_ret
    exact Sz.no HB2.out
  have Hk2 := Lib.hid hk2
  clear hk hk2
  obtain ⟨c0, c1, c2, c3⟩ := blk4 K2.out
  go_wp2_with fail
  clear c0 c1 c2 c3
  refine (szIntS_c ve _ m2 _ (H.out.2.2.stay (kpB HB2.out)) hk0 (by omega)).mono ?_
  rintro e w3 ⟨m3, rfl, hb3, hj⟩
  have HB3 := Lib.hid (HB2.out.trans (hb3.mono HB2.out.size))
  clear hb3 K2 HB2
  rcases hj.out with rfl | ⟨hj0, hj1, hj2⟩
  · clear hj
    go_wp2
    go_ret
    exact Sz.no HB3.out
  clear hj
  go_wp2
  go_ret
  exact Sz.yes HB3.out hj0 (by omega) ⟨Hm2.out, Hk2.out, hj2⟩
theorem toMove_c (x y z : Int) (w : World) : Calls Try.prog 129 #[.agg #[.int .i64 x, .int .i64 y, .int .i64 z]] w fun e w' => e = .returned (.agg #[.int .i64 x, .int .i64 y, .int .i64 z]) ∧ Below w.heap.size w w' := by
  go_enter Try.func129, Try.ntmps129
  go_wp2
  refine bodyPost_ret (v := .agg #[.int .i64 x, .int .i64 y, .int .i64 z]) (by simp [results, Try.results129, go_sem]) rfl ⟨rfl, ?_⟩
  exact (((Below.refl _ _).alloc (Nat.le_refl _) _).alloc (by simp) _).alloc (by simp; omega) _
set_option maxHeartbeats 800000 in
theorem toMoveS_c (v : Value) (xs : List (Int × Int × Int)) (w : World) (h : Trips S w v xs) (hn : xs.length ≤ 1048576) :
    Calls Try.prog 76 #[v] w (RVn w fun v w' => Made w.heap.size w' v xs.length (cells3 xs)) := by
  obtain ⟨a, cap, rfl, _⟩ := h.shape
  have H := Lib.hid h; clear h
  have hl2 := length_cells3 xs
  go_enter Try.func76, Try.ntmps76
  go_wp2_with (at_make; refine makeFull elMove (by decide) rfl (.tmp 6) (.tmp 6) rfl xs.length w rfl rfl (by omega) ?_; intro w1 cs ho hcl hb hlt _)
  have hF := Lib.hid (ownAt ho.out)
  clear ho
  have Hl2 := Lib.hid hl2; clear hl2
  go_loopw [4] (fun i wr => ∃ k : Nat, k ≤ xs.length ∧ i = .int .i64 k ∧ Below w.heap.size w wr ∧ w.heap.size < wr.heap.size ∧ Hid (FlW (· = w.heap.size) wr (.slice (some ⟨w.heap.size, 0, none⟩) xs.length xs.length) xs.length (mkd cs (fun t => (cells3 xs).getD t undef) (3 * k)))) (fun i _ => xs.length - (intOf i).toNat)
  case atStart => exact ⟨0, by omega, rfl, hb, hlt, by rw [mkd_zero]; exact hF⟩
  case round =>
    obtain ⟨k, hk, rfl, hb, hlt0, hr⟩ := hrel
    clear hF
    by_cases hlt : k < xs.length
    · obtain ⟨b, off, rfl, hca, hca', hca''⟩ := (H.out.stay (kpB hb)).at hlt
      obtain ⟨e0, e1, e2⟩ := flat3_at (fun p : Int × Int × Int => Value.int .i64 p.1) (fun p => Value.int .i64 p.2.1) (fun p => Value.int .i64 p.2.2) xs k hlt
      have E0 := Lib.hid (show (cells3 xs).getD (3 * k) undef = .int .i64 xs[k].1 by rw [List.getD_eq_getElem?_getD]; unfold cells3; rw [e0]; rfl)
      have E1 := Lib.hid (show (cells3 xs).getD (3 * k + 1) undef = .int .i64 xs[k].2.1 by rw [List.getD_eq_getElem?_getD]; unfold cells3; rw [e1]; rfl)
      have E2 := Lib.hid (show (cells3 xs).getD (3 * k + 2) undef = .int .i64 xs[k].2.2 by rw [List.getD_eq_getElem?_getD]; unfold cells3; rw [e2]; rfl)
      clear e0 e1 e2
      generalize xs[k] = xy at *
      obtain ⟨x, y, z⟩ := xy
      simp only at hca hca' hca'' E0 E1 E2
      go_wp2_with fail
      refine (toMove_c x y z _).mono ?_
      rintro e w2 ⟨rfl, hb2⟩
      have hbw2 := hb.trans (hb2.mono hb.size)
      have hlt2 := Nat.lt_of_lt_of_le hlt0 hb2.size
      have hr2 := hr.out.stay (ksB hb2)
      have hlen := mkd_length cs (fun t => (cells3 xs).getD t undef) (3 * k) (by rw [hcl.out]; omega)
      have hlen3 := mkd_length cs (fun t => (cells3 xs).getD t undef) (3 * k + 2) (by rw [hcl.out]; omega)
      have hlen2 := mkd_length cs (fun t => (cells3 xs).getD t undef) (3 * k + 1) (by rw [hcl.out]; omega)
      obtain ⟨b', off', e, _, c0, f0⟩ := hr2.at (i := 3 * k) (by rw [hlen, hcl.out]; omega)
      cases e
      obtain ⟨b', off', e, _, c1, _⟩ := hr2.at (i := 3 * k + 1) (by rw [hlen, hcl.out]; omega)
      cases e
      obtain ⟨b', off', e, _, c2, _⟩ := hr2.at (i := 3 * k + 2) (by rw [hlen, hcl.out]; omega)
      cases e
      have hs := hr2.set (3 * k) (.int .i64 x) (by rw [hlen, hcl.out]; omega)
      have q0 := mkd_set cs (fun t => (cells3 xs).getD t undef) (3 * k) (by rw [hcl.out]; omega)
      have q1 := mkd_set cs (fun t => (cells3 xs).getD t undef) (3 * k + 1) (by rw [hcl.out]; omega)
      have q2 := mkd_set cs (fun t => (cells3 xs).getD t undef) (3 * k + 2) (by rw [hcl.out]; omega)
      simp only [E2.out] at q2
      simp only [E0.out] at q0
      simp only [E1.out] at q1
      rw [q0] at hs
      have hs2 := hs.set (3 * k + 1) (.int .i64 y) (by rw [hlen2, hcl.out]; omega)
      rw [q1] at hs2
      have hs3 := hs2.set (3 * k + 2) (.int .i64 z) (by rw [hlen3, hcl.out]; omega)
      rw [q2] at hs3
      obtain ⟨u0, d0⟩ : ∃ u, w2.cell? ⟨w.heap.size, 0 + 3 * k, none⟩ = some u := ⟨_, c0⟩
      obtain ⟨u1, d1⟩ : ∃ u, w2.cell? ⟨w.heap.size, 0 + (3 * k + 1), none⟩ = some u := ⟨_, c1⟩
      obtain ⟨u2, d2⟩ : ∃ u, w2.cell? ⟨w.heap.size, 0 + (3 * k + 2), none⟩ = some u := ⟨_, c2⟩
      have g0 := f0 (k * 3)
      have g1 := f0 (k * 3 + 1)
      have g2 := f0 (k * 3 + 2)
      rw [show 0 + 3 * k = k * 3 by omega] at d0 hs3
      rw [show 0 + (3 * k + 1) = k * 3 + 1 by omega] at d1 hs3
      rw [show 0 + (3 * k + 2) = k * 3 + 2 by omega] at d2 hs3
      have Hs := Lib.hid hs3
      clear hs3 hs2 hs hlen hlen2 hlen3 c0 c1 c2 f0 hr hr2 q0 q1 q2
      go_wp2
      go_roundw
      case rel => exact ⟨k + 1, by omega, by go_num, ((hbw2.setCell (Nat.le_refl _) _).setCell (Nat.le_refl _) _).setCell (Nat.le_refl _) _, by simpa [World.setCell] using hlt2, Hs⟩
      case measure => simp [intOf]; omega
    · obtain rfl : k = xs.length := by omega
      have he : (List.range (3 * xs.length)).map (fun t => (cells3 xs).getD t undef) = cells3 xs := by
        rw [← Hl2.out]
        apply List.ext_getElem
        · simp
        · intro i h1 h2
          simp [h2]
      have H2 : Hid (FlW (· = w.heap.size) wr (.slice (some ⟨w.heap.size, 0, none⟩) xs.length xs.length) xs.length (cells3 xs)) := by
        rw [← he, ← mkd_all cs _ _ (by rw [hcl.out]; omega)]; exact hr
      clear he hr
      go_wp2
      go_ret
      exact RVn.mk hb ⟨w.heap.size, Nat.le_refl _, hlt0, H2.out⟩
theorem eqMove_c (x y z : Int) (w : World) : Calls Try.prog 135 #[.agg #[.int .i64 x, .int .i64 y, .int .i64 z], .agg #[.int .i64 x, .int .i64 y, .int .i64 z]] w (RBn w True) := by
  have hx := bneS x
  have hy := bneS y
  have hz := bneS z
  go_enter Try.func135, Try.ntmps135
  go_wp2
  go_ret
  exact RBn.mk (((Below.refl _ _).alloc (Nat.le_refl _) _).alloc (by simp) _) (by simp)
set_option maxHeartbeats 400000 in
theorem eqMoveS_c (v u : Value) (xs : List (Int × Int × Int)) (w : World) (hv : Trips S w v xs) (hu : Trips T w u xs) : Calls Try.prog 80 #[v, u] w (RBn w True) := by
  obtain ⟨a, ca, rfl, hn⟩ := hv.shape
  obtain ⟨b, cb, rfl, _⟩ := hu.shape
  have HV := Lib.hid hv; clear hv
  have HU := Lib.hid hu; clear hu
  have hne := bneS (xs.length : Int)
  go_enter Try.func80, Try.ntmps80
  go_wp2
  go_loopw [5] (fun i wr => ∃ k : Nat, k ≤ xs.length ∧ i = .int .i64 k ∧ Below w.heap.size w wr) (fun i _ => xs.length - (intOf i).toNat)
  case atStart => exact ⟨0, by omega, rfl, Below.refl _ _⟩
  case round =>
    obtain ⟨k, hk, rfl, hb⟩ := hrel
    by_cases hlt : k < xs.length
    · obtain ⟨ba, oa, rfl, hca, hca', hca''⟩ := (HV.out.stay (kpB hb)).at hlt
      obtain ⟨bb, ob, rfl, hcb, hcb', hcb''⟩ := (HU.out.stay (kpB hb)).at hlt
      generalize xs[k] = x at *
      obtain ⟨x, y, z⟩ := x
      go_wp2_with fail
      go_still_tail 8, (by kernel_rfl)
      change wpList _ _ _ _ _ wr.drew
      have hb2 : Below w.heap.size w wr.drew := hb.drew
      generalize wr.drew = w2 at *
      go_wp2_with fail
      refine (eqMove_c x y z _).mono ?_
      rintro e w3 ⟨b, rfl, hb3, hp⟩
      cases b
      · exact (hbF hp trivial).elim
      clear hp
      go_wp2
      go_roundw
      case rel => exact ⟨k + 1, by omega, by go_num, hb2.trans (hb3.mono hb2.size)⟩
      case measure => simp [intOf]; omega
    · go_wp2
      go_ret
      exact RBn.mk hb (by simp)
set_option maxHeartbeats 400000 in
theorem markMoveS_f (v : Value) (n : Nat) (cs : List Value) (k : Int) (w : World) (h : FlW S w v n cs) (hl : cs.length = 3 * n) (hk : 0 ≤ k ∧ k ≤ 4000000000000) (hn : n ≤ 1000000000000) :
    Calls Try.prog 81 #[v, .int .i64 k] w fun e w' => e = .returned (.int .i64 (k + 3 * n)) ∧ Hid (Fr S w w') ∧ Hid (FlW S w' v n ((List.range (3 * n)).map fun t : Nat => .int .i64 (k + t))) := by
  obtain ⟨a, cap, rfl, _⟩ := h.shape
  have H := Lib.hid h; clear h
  have Hl := Lib.hid hl; clear hl
  obtain ⟨hk0, hk1⟩ := hk
  go_enter Try.func81, Try.ntmps81
  go_wp2
  go_loopw [1, 5] (fun x i wr => ∃ j : Nat, j ≤ n ∧ i = .int .i64 j ∧ x = .int .i64 (k + 3 * j) ∧ Hid (Fr S w wr) ∧ Hid (FlW S wr (.slice a n cap) n (mkd cs (fun t : Nat => .int .i64 (k + t)) (3 * j)))) (fun _ i _ => n - (intOf i).toNat)
  case atStart => exact ⟨0, by omega, rfl, by simp, Fr.refl _, by rw [mkd_zero]; exact H⟩
  case round =>
    obtain ⟨j, hj, rfl, rfl, hg, hr⟩ := hrel
    by_cases hlt : j < n
    · have hlen := mkd_length cs (fun t : Nat => .int .i64 (k + t)) (3 * j) (by rw [Hl.out]; omega)
      obtain ⟨b, off, rfl, hbS, c0, f0⟩ := hr.out.at (i := j * 3) (by rw [hlen, Hl.out]; omega)
      obtain ⟨b', off', e, _, c1, _⟩ := hr.out.at (i := j * 3 + 1) (by rw [hlen, Hl.out]; omega)
      cases e
      obtain ⟨b', off', e, _, c2, _⟩ := hr.out.at (i := j * 3 + 2) (by rw [hlen, Hl.out]; omega)
      cases e
      have hs0 := hr.out.set (3 * j) (.int .i64 (k + 3 * j)) (by rw [hlen, Hl.out]; omega)
      have e0 := mkd_set cs (fun t : Nat => .int .i64 (k + t)) (3 * j) (by rw [Hl.out]; omega)
      rw [show k + ((3 * j : Nat) : Int) = k + 3 * (j : Int) by omega] at e0
      rw [e0] at hs0
      have hlen1 := mkd_length cs (fun t : Nat => .int .i64 (k + t)) (3 * j + 1) (by rw [Hl.out]; omega)
      have hs1 := hs0.set (3 * j + 1) (.int .i64 (k + 3 * j + 1)) (by rw [hlen1, Hl.out]; omega)
      have e1 := mkd_set cs (fun t : Nat => .int .i64 (k + t)) (3 * j + 1) (by rw [Hl.out]; omega)
      rw [show k + ((3 * j + 1 : Nat) : Int) = k + 3 * (j : Int) + 1 by omega] at e1
      rw [e1] at hs1
      have hlen2 := mkd_length cs (fun t : Nat => .int .i64 (k + t)) (3 * j + 2) (by rw [Hl.out]; omega)
      have hs2 := hs1.set (3 * j + 2) (.int .i64 (k + 3 * j + 1 + 1)) (by rw [hlen2, Hl.out]; omega)
      have e2 := mkd_set cs (fun t : Nat => .int .i64 (k + t)) (3 * j + 2) (by rw [Hl.out]; omega)
      rw [show k + ((3 * j + 2 : Nat) : Int) = k + 3 * (j : Int) + 1 + 1 by omega] at e2
      rw [e2] at hs2
      obtain ⟨u0, d0⟩ : ∃ u, wr.cell? ⟨b, off + j * 3, none⟩ = some u := ⟨_, c0⟩
      have g0 := f0 (off + j * 3)
      obtain ⟨u1, d1⟩ : ∃ u, wr.cell? ⟨b, off + j * 3 + 1, none⟩ = some u := ⟨_, c1⟩
      have g1 := f0 (off + j * 3 + 1)
      obtain ⟨u2, d2⟩ : ∃ u, wr.cell? ⟨b, off + j * 3 + 2, none⟩ = some u := ⟨_, c2⟩
      have g2 := f0 (off + j * 3 + 2)
      have Hs := Lib.hid hs2
      rw [show off + 3 * j = off + j * 3 by omega, show off + (3 * j + 1) = off + j * 3 + 1 by omega, show off + (3 * j + 2) = off + j * 3 + 2 by omega] at Hs
      have hG : Hid (Fr S w (((wr.setCell ⟨b, off + j * 3, none⟩ (.int .i64 (k + 3 * j))).setCell ⟨b, off + j * 3 + 1, none⟩ (.int .i64 (k + 3 * j + 1))).setCell ⟨b, off + j * 3 + 2, none⟩ (.int .i64 (k + 3 * j + 1 + 1)))) := (Fr.trans (Fr.trans (Fr.trans hg.out (Fr.grown (grownSet _ _ _ _) (fun x e => by injection e with e; exact e ▸ hbS))) (Fr.grown (grownSet _ _ _ _) (fun x e => by injection e with e; exact e ▸ hbS))) (Fr.grown (grownSet _ _ _ _) (fun x e => by injection e with e; exact e ▸ hbS)))
      clear c0 hs0 e0 c1 hs1 e1 c2 hs2 e2 hlen1 hlen2 hlen hr f0 hg H hbS
      go_wp2
      go_roundw
      case rel => exact ⟨j + 1, by omega, by go_num, by rw [show k + 3 * (j : Int) + 1 + 1 + 1 = k + 3 * ((j + 1 : Nat) : Int) by omega], hG, Hs⟩
      case measure => simp [intOf]; omega
    · obtain rfl : j = n := by omega
      go_wp2
      go_ret
      refine ⟨rfl, hg, ?_⟩
      rw [← mkd_all cs _ _ Hl.out]
      exact hr
/-- Four cells set, one after the other. -/
theorem blk4s {w : World} {b : Nat} {x y z u x' y' z' u' : Value} {t : TypeId} (h : w.heap[b]? = some (.cells #[x, y, z, u] t (0, 0))) :
    ((((w.setCell ⟨b, 0, none⟩ x').setCell ⟨b, 1, none⟩ y').setCell ⟨b, 2, none⟩ z').setCell ⟨b, 3, none⟩ u').heap[b]? = some (.cells #[x', y', z', u'] t (0, 0)) := by
  rw [heap_set (heap_set (heap_set (heap_set h 0 x') 1 y') 2 z') 3 u']; rfl
theorem bel4 {B c : Nat} {a w : World} (h : Below B a w) (hc : B ≤ c) (x y z u : Value) : Below B a ((((w.setCell ⟨c, 0, none⟩ x).setCell ⟨c, 1, none⟩ y).setCell ⟨c, 2, none⟩ z).setCell ⟨c, 3, none⟩ u) :=
  (((h.setCell hc _).setCell hc _).setCell hc _).setCell hc _
theorem ksSet4 {w : World} {c : Nat} (x y z u : Value) (T : Nat → Prop) (hT : ∀ b, T b → b ≠ c) : Ks T w ((((w.setCell ⟨c, 0, none⟩ x).setCell ⟨c, 1, none⟩ y).setCell ⟨c, 2, none⟩ z).setCell ⟨c, 3, none⟩ u) := fun b hb _ => by
  have := hT b hb
  rw [Below.heap_setCell _ _ _ _ this, Below.heap_setCell _ _ _ _ this, Below.heap_setCell _ _ _ _ this, Below.heap_setCell _ _ _ _ this]
theorem ksSet1 {w : World} {c o : Nat} (x : Value) (T : Nat → Prop) (hT : ∀ b, T b → b ≠ c) : Ks T w (w.setCell ⟨c, o, none⟩ x) := fun b hb _ => by
  rw [Below.heap_setCell _ _ _ _ (hT b hb)]
set_option maxHeartbeats 1000000 in
theorem toNfa_c (vm vf ve : Value) (D : NfaD) (w : World) (h : NfaR S w vm vf ve D) (hn : smallN D) :
    Calls Try.prog 33 #[.agg #[.int .i64 D.states, vm, vf, ve]] w fun e w' => ∃ v1 v2 v3, e = .returned (.agg #[.int .i64 D.states, v1, v2, v3]) ∧ Below w.heap.size w w' ∧ Hid (NfaW (fun b => w.heap.size ≤ b ∧ b < w'.heap.size) w' v1 v2 v3 D) := by
  have H := Lib.hid h; clear h
  have HN := Lib.hid hn; clear hn
  obtain ⟨W, hW⟩ : ∃ W, W = ((w.alloc (.cells #[.int .i64 D.states, vm, vf, ve] 42)).alloc (.cells #[.int .i64 0, .slice none 0 0, .slice none 0 0, .slice none 0 0] 46)).alloc (.cells #[.int .i64 D.states, .slice none 0 0, .slice none 0 0, .slice none 0 0] 46) := ⟨_, rfl⟩
  have Hb0 : Hid (Below w.heap.size w W) := by rw [hW]; exact (((Below.refl _ _).alloc (Nat.le_refl _) _).alloc (by simp) _).alloc (by simp; omega) _
  have k0 : Hid (W.heap[w.heap.size]? = some (.cells #[.int .i64 D.states, vm, vf, ve] 42 (0, 0))) := by rw [hW]; exact blkOld (blkOld (blkNew _ _ rfl))
  have k1 : Hid (W.heap[w.heap.size + 1]? = some (.cells #[.int .i64 0, .slice none 0 0, .slice none 0 0, .slice none 0 0] 46 (0, 0))) := by rw [hW]; exact blkOld (blkNew _ _ (by simp))
  have k2 : Hid (W.heap[w.heap.size + 1 + 1]? = some (.cells #[.int .i64 D.states, .slice none 0 0, .slice none 0 0, .slice none 0 0] 46 (0, 0))) := by rw [hW]; exact blkNew _ _ (by simp)
  have hz : Hid (W.heap.size = w.heap.size + 3) := by rw [hW]; simp [Hid]
  have HW := Lib.hid hW; clear hW
  go_enter Try.func33, Try.ntmps33
  go_wp2_with fail
  rw [← HW.out]
  clear HW
  refine (toMoveS_c vm _ W (H.out.1.stay (kpB Hb0.out)) HN.out.1).mono ?_
  rintro e w1 ⟨v1, rfl, hb, hm1⟩
  obtain ⟨a1, ca1, rfl, _⟩ := hm1.out.fl.shape
  replace Hb0 := Lib.hid (Hb0.out.trans (hb.mono Hb0.out.size))
  replace k0 := Lib.hid (blkBel hb k0.out)
  replace k1 := Lib.hid (blkBel hb k1.out)
  replace k2 := Lib.hid (blkBel hb k2.out)
  have hz1 := hb.size; clear hb
  obtain ⟨p, p1, p2, p3⟩ := hm1.out
  have P3 := Lib.hid p3; clear hm1 p3
  generalize hL1 : D.moves.length = L1 at *
  have HL1 := Lib.hid hL1; clear hL1
  -- the moves stored
  obtain ⟨W2, hW2⟩ : ∃ W2, W2 = w1.setCell ⟨w.heap.size + 1 + 1, 1, none⟩ (.slice a1 L1 ca1) := ⟨_, rfl⟩
  have hb2 : Hid (Below w.heap.size w W2) := by rw [hW2]; exact Hb0.out.setCell (by show w.heap.size ≤ w.heap.size + 1 + 1; omega) _
  have m0 : Hid (W2.heap[w.heap.size]? = some (.cells #[.int .i64 D.states, vm, vf, ve] 42 (0, 0))) := by rw [hW2]; exact blkSet k0.out (by omega)
  have m1 : Hid (W2.heap[w.heap.size + 1]? = some (.cells #[.int .i64 0, .slice none 0 0, .slice none 0 0, .slice none 0 0] 46 (0, 0))) := by rw [hW2]; exact blkSet k1.out (by omega)
  have m2 : Hid (W2.heap[w.heap.size + 1 + 1]? = some (.cells #[.int .i64 D.states, .slice a1 L1 ca1, .slice none 0 0, .slice none 0 0] 46 (0, 0))) := by rw [hW2]; exact heap_set k2.out 1 _
  have hzs : Hid (W2.heap.size = w1.heap.size) := by rw [hW2]; simp [Hid, World.setCell]
  have P3' : Hid (FlW (· = p) W2 (.slice a1 L1 ca1) L1 (cells3 D.moves)) := by rw [hW2]; exact P3.out.stay (ksSet1 _ _ (fun b e => by subst e; have := hz.out; omega))
  have l2 : w.heap.size + 1 + 1 < w1.heap.size := (Array.getElem?_eq_some_iff.1 k2.out).1
  have c00 := (blk4 k0.out).2.2.1
  have c02 := (blk4 k2.out).2.1
  have f2 := blkFz k2.out 1
  have HW2 := Lib.hid hW2; clear hW2
  go_wp2_with fail
  clear c00 c02 f2
  rw [← HW2.out]
  clear HW2 k0 k1 k2 P3 Hb0
  refine (toIntS_c vf _ W2 (H.out.2.1.stay (kpB hb2.out)) HN.out.2.1).mono ?_
  rintro e w3 ⟨v2, rfl, hb, hm2⟩
  obtain ⟨a2, ca2, rfl, _⟩ := hm2.out.fl.shape
  have Hb3 := Lib.hid (hb2.out.trans (hb.mono hb2.out.size))
  replace m0 := Lib.hid (blkBel hb m0.out)
  replace m1 := Lib.hid (blkBel hb m1.out)
  replace m2 := Lib.hid (blkBel hb m2.out)
  replace P3' := Lib.hid (P3'.out.stay (ksB hb))
  have hz3 := hb.size; clear hb
  obtain ⟨q, q1, q2, q3⟩ := hm2.out
  have Q3 := Lib.hid q3; clear hm2 q3
  generalize hL2 : D.firsts.length = L2 at *
  have HL2 := Lib.hid hL2; clear hL2
  obtain ⟨W4, hW4⟩ : ∃ W4, W4 = w3.setCell ⟨w.heap.size + 1 + 1, 2, none⟩ (.slice a2 L2 ca2) := ⟨_, rfl⟩
  have hb4 : Hid (Below w.heap.size w W4) := by rw [hW4]; exact Hb3.out.setCell (by show w.heap.size ≤ w.heap.size + 1 + 1; omega) _
  have n0 : Hid (W4.heap[w.heap.size]? = some (.cells #[.int .i64 D.states, vm, vf, ve] 42 (0, 0))) := by rw [hW4]; exact blkSet m0.out (by omega)
  have n1 : Hid (W4.heap[w.heap.size + 1]? = some (.cells #[.int .i64 0, .slice none 0 0, .slice none 0 0, .slice none 0 0] 46 (0, 0))) := by rw [hW4]; exact blkSet m1.out (by omega)
  have n2 : Hid (W4.heap[w.heap.size + 1 + 1]? = some (.cells #[.int .i64 D.states, .slice a1 L1 ca1, .slice a2 L2 ca2, .slice none 0 0] 46 (0, 0))) := by rw [hW4]; exact heap_set m2.out 2 _
  have hzs4 : Hid (W4.heap.size = w3.heap.size) := by rw [hW4]; simp [Hid, World.setCell]
  have P4 : Hid (FlW (· = p) W4 (.slice a1 L1 ca1) L1 (cells3 D.moves)) := by rw [hW4]; exact P3'.out.stay (ksSet1 _ _ (fun b e => by subst e; have := hz.out; omega))
  have Q4 : Hid (FlW (· = q) W4 (.slice a2 L2 ca2) L2 (D.firsts.map (.int .i64 ·))) := by rw [hW4]; exact Q3.out.stay (ksSet1 _ _ (fun b e => by subst e; have := hzs.out; omega))
  have l4 : w.heap.size + 1 + 1 < w3.heap.size := (Array.getElem?_eq_some_iff.1 m2.out).1
  have c00 := (blk4 m0.out).2.2.2
  have c02 := (blk4 m2.out).2.2.1
  have f2 := blkFz m2.out 2
  have HW4 := Lib.hid hW4; clear hW4
  go_wp2_with fail
  clear c00 c02 f2
  rw [← HW4.out]
  clear HW4 m0 m1 m2 P3' Q3 Hb3
  refine (toIntS_c ve _ W4 (H.out.2.2.stay (kpB hb4.out)) HN.out.2.2).mono ?_
  rintro e w5 ⟨v3, rfl, hb, hm3⟩
  obtain ⟨a3, ca3, rfl, _⟩ := hm3.out.fl.shape
  have Hb5 := Lib.hid (hb4.out.trans (hb.mono hb4.out.size))
  replace n1 := Lib.hid (blkBel hb n1.out)
  replace n2 := Lib.hid (blkBel hb n2.out)
  replace P4 := Lib.hid (P4.out.stay (ksB hb))
  replace Q4 := Lib.hid (Q4.out.stay (ksB hb))
  have hz5 := hb.size; clear hb n0
  obtain ⟨r, r1, r2, r3⟩ := hm3.out
  have R3 := Lib.hid r3; clear hm3 r3
  generalize hL3 : D.ends.length = L3 at *
  have HL3 := Lib.hid hL3; clear hL3
  obtain ⟨d0, d1, d2, d3⟩ := blk4 n2.out
  obtain ⟨e0, e1, e2, e3⟩ := blk4 n1.out
  have g1 := blkFz n1.out
  have g2 := blkFz n2.out
  go_wp2
  refine bodyPost_ret (v := .agg #[.int .i64 D.states, .slice a1 L1 ca1, .slice a2 L2 ca2, .slice a3 L3 ca3]) (by simp [results, Try.results33, go_sem, e0, e1, e2, e3]) rfl ⟨_, _, _, rfl, ?_, ?_⟩
  · exact bel4 (Hb5.out.setCell (by show w.heap.size ≤ w.heap.size + 1 + 1; omega) _) (by omega) _ _ _ _
  · have hz' := hz.out; have hzs' := hzs.out; have hzs4' := hzs4.out
    have hK : ∀ g : Nat, w.heap.size + 1 + 1 < g → Ks (fun b => b = g) w5 (((((w5.setCell ⟨w.heap.size + 1 + 1, 3, none⟩ (.slice a3 L3 ca3)).setCell ⟨w.heap.size + 1, 0, none⟩ (.int .i64 D.states)).setCell ⟨w.heap.size + 1, 1, none⟩ (.slice a1 L1 ca1)).setCell ⟨w.heap.size + 1, 2, none⟩ (.slice a2 L2 ca2)).setCell ⟨w.heap.size + 1, 3, none⟩ (.slice a3 L3 ca3)) := fun g hg b e hl => by
      subst e
      rw [ksSet4 _ _ _ _ (fun x => x = b) (fun x e => by subst e; omega) b rfl (by simpa [World.setCell] using hl), Below.heap_setCell _ _ _ _ (by show b ≠ w.heap.size + 1 + 1; omega)]
    have hszE : (((((w5.setCell ⟨w.heap.size + 1 + 1, 3, none⟩ (.slice a3 L3 ca3)).setCell ⟨w.heap.size + 1, 0, none⟩ (.int .i64 D.states)).setCell ⟨w.heap.size + 1, 1, none⟩ (.slice a1 L1 ca1)).setCell ⟨w.heap.size + 1, 2, none⟩ (.slice a2 L2 ca2)).setCell ⟨w.heap.size + 1, 3, none⟩ (.slice a3 L3 ca3)).heap.size = w5.heap.size := by simp [World.setCell]
    unfold NfaW
    rw [HL1.out, HL2.out, HL3.out]
    exact ⟨p, q, r, ⟨⟨by omega, by rw [hszE]; omega⟩, ⟨by omega, by rw [hszE]; omega⟩, ⟨by omega, by rw [hszE]; omega⟩⟩, ⟨by omega, by omega, by omega⟩, P4.out.stay (hK p (by omega)), Q4.out.stay (hK q (by omega)), R3.out.stay (hK r (by omega))⟩
set_option maxHeartbeats 1000000 in
theorem eqNfa_c (vm vf ve um uf ue : Value) (D : NfaD) (w : World) (h : NfaR S w vm vf ve D) (h' : NfaR T w um uf ue D) :
    Calls Try.prog 35 #[.agg #[.int .i64 D.states, vm, vf, ve], .agg #[.int .i64 D.states, um, uf, ue]] w (RBn w True) := by
  obtain ⟨W, hW⟩ : ∃ W, W = (w.alloc (.cells #[.int .i64 D.states, vm, vf, ve] 46)).alloc (.cells #[.int .i64 D.states, um, uf, ue] 46) := ⟨_, rfl⟩
  have Hb0 : Hid (Below w.heap.size w W) := by rw [hW]; exact ((Below.refl _ _).alloc (Nat.le_refl _) _).alloc (by simp) _
  have k0 : Hid (W.heap[w.heap.size]? = some (.cells #[.int .i64 D.states, vm, vf, ve] 46 (0, 0))) := by rw [hW]; exact blkOld (blkNew _ _ rfl)
  have k1 : Hid (W.heap[w.heap.size + 1]? = some (.cells #[.int .i64 D.states, um, uf, ue] 46 (0, 0))) := by rw [hW]; exact blkNew _ _ (by simp)
  have H := Lib.hid (h.stay (kpB Hb0.out)); have H' := Lib.hid (h'.stay (kpB Hb0.out)); clear h h'
  have HW := Lib.hid hW; clear hW
  have hne := bneS D.states
  go_enter Try.func35, Try.ntmps35
  go_wp2_with fail
  rw [← HW.out]
  clear HW
  refine (eqMoveS_c vm um D.moves W H.out.1 H'.out.1).mono ?_
  rintro e w1 ⟨bq, rfl, hb, hq⟩
  cases bq
  · exact (hbF hq trivial).elim
  clear hq
  replace Hb0 := Lib.hid (Hb0.out.trans (hb.mono Hb0.out.size))
  replace k0 := Lib.hid (blkBel hb k0.out)
  replace k1 := Lib.hid (blkBel hb k1.out)
  replace H := Lib.hid (H.out.stay (kpB hb))
  replace H' := Lib.hid (H'.out.stay (kpB hb)); clear hb
  obtain ⟨c0, c1, c2, c3⟩ := blk4 k0.out
  obtain ⟨d0, d1, d2, d3⟩ := blk4 k1.out
  go_wp2_with fail
  clear c0 c1 c2 c3 d0 d1 d2 d3
  refine (eqIntS_c vf uf D.firsts w1 H.out.2.1 H'.out.2.1).mono ?_
  rintro e w2 ⟨bq, rfl, hb, hq⟩
  cases bq
  · exact (hbF hq trivial).elim
  clear hq
  replace Hb0 := Lib.hid (Hb0.out.trans (hb.mono Hb0.out.size))
  replace k0 := Lib.hid (blkBel hb k0.out)
  replace k1 := Lib.hid (blkBel hb k1.out)
  replace H := Lib.hid (H.out.stay (kpB hb))
  replace H' := Lib.hid (H'.out.stay (kpB hb)); clear hb
  obtain ⟨c0, c1, c2, c3⟩ := blk4 k0.out
  obtain ⟨d0, d1, d2, d3⟩ := blk4 k1.out
  go_wp2_with fail
  clear c0 c1 c2 c3 d0 d1 d2 d3
  refine (eqIntS_c ve ue D.ends w2 H.out.2.2 H'.out.2.2).mono ?_
  rintro e w3 ⟨bq, rfl, hb, hq⟩
  cases bq
  · exact (hbF hq trivial).elim
  clear hq
  replace Hb0 := Lib.hid (Hb0.out.trans (hb.mono Hb0.out.size))
  go_wp2
  go_ret
  exact RBn.mk Hb0.out (by simp)
/-- The numbers that marking writes. -/
def mkc (k : Int) (n : Nat) : List Value := (List.range n).map fun t : Nat => .int .i64 (k + t)
set_option maxHeartbeats 1000000 in
theorem markNfa_f (x : Int) (vm vf ve : Value) (n1 n2 n3 : Nat) (cs1 cs2 cs3 : List Value) (k : Int) (w : World) (h : NfW S w vm vf ve n1 n2 n3 cs1 cs2 cs3) (hl : cs1.length = 3 * n1 ∧ cs2.length = n2 ∧ cs3.length = n3)
    (hSb : ∀ b, S b → b ≠ w.heap.size) (hk : 0 ≤ k ∧ k ≤ 1000000000000) (hs : n1 ≤ 100000000000 ∧ n2 ≤ 100000000000 ∧ n3 ≤ 100000000000) :
    Calls Try.prog 36 #[.agg #[.int .i64 x, vm, vf, ve], .int .i64 k] w fun e w' => e = .returned (.int .i64 (k + 3 * n1 + n2 + n3)) ∧ Hid (Fr S w w') ∧
      Hid (NfW S w' vm vf ve n1 n2 n3 (mkc k (3 * n1)) (mkc (k + 3 * n1) n2) (mkc (k + 3 * n1 + n2) n3)) := by
  obtain ⟨p, q, r, hS, hne, h1, h2, h3⟩ := h
  obtain ⟨W, hW⟩ : ∃ W, W = w.alloc (.cells #[.int .i64 x, vm, vf, ve] 46) := ⟨_, rfl⟩
  have hb0 : Below w.heap.size w W := by rw [hW]; exact (Below.refl _ _).alloc (Nat.le_refl _) _
  have k0 : Hid (W.heap[w.heap.size]? = some (.cells #[.int .i64 x, vm, vf, ve] 46 (0, 0))) := by rw [hW]; exact blkNew _ _ rfl
  have H1 := Lib.hid (h1.stay (ksB hb0)); have H2 := Lib.hid (h2.stay (ksB hb0)); have H3 := Lib.hid (h3.stay (ksB hb0))
  have HF : Hid (Fr S w W) := Fr.bel hb0
  have HW := Lib.hid hW
  obtain ⟨hSp, hSq, hSr⟩ := hS
  have np := Lib.hid (hSb _ hSp); have nq := Lib.hid (hSb _ hSq); have nr := Lib.hid (hSb _ hSr)
  have HP := Lib.hid hSp; have HQ := Lib.hid hSq; have HR := Lib.hid hSr
  have Hne := Lib.hid hne
  have Hl := Lib.hid hl
  obtain ⟨hk0, hk1⟩ := hk
  obtain ⟨s1, s2, s3⟩ := hs
  clear h1 h2 h3 hb0 hW hSp hSq hSr hne hl hSb
  go_enter Try.func36, Try.ntmps36
  go_wp2_with fail
  rw [← HW.out]
  clear HW
  refine (markMoveS_f vm n1 cs1 k W H1.out Hl.out.1 (by omega) (by omega)).mono ?_
  rintro e w1 ⟨rfl, hF, hM1⟩
  replace H2 := Lib.hid (H2.out.stay (hF.out.ks.mono fun b e => by subst e; exact fun e => Hne.out.1 e.symm))
  replace H3 := Lib.hid (H3.out.stay (hF.out.ks.mono fun b e => by subst e; exact fun e => Hne.out.2.1 e.symm))
  replace k0 : Hid (w1.heap[w.heap.size]? = some (.cells #[.int .i64 x, vm, vf, ve] 46 (0, 0))) := by rw [← k0.out]; exact hF.out.block _ (Array.getElem?_eq_some_iff.1 k0.out).1 (fun e => np.out e.symm)
  replace HF := Lib.hid (HF.out.trans (hF.out.mono fun b e => by subst e; exact HP.out))
  clear hF H1
  obtain ⟨c0, c1, c2, c3⟩ := blk4 k0.out
  go_wp2_with fail
  clear c0 c1 c2 c3
  refine (markIntS_f vf n2 cs2 (k + 3 * n1) w1 H2.out Hl.out.2.1 (by omega) (by omega)).mono ?_
  rintro e w2 ⟨rfl, hF, hM2⟩
  replace H3 := Lib.hid (H3.out.stay (hF.out.ks.mono fun b e => by subst e; exact fun e => Hne.out.2.2 e.symm))
  replace hM1 := Lib.hid (hM1.out.stay (hF.out.ks.mono fun b e => by subst e; exact fun e => Hne.out.1 e))
  replace k0 : Hid (w2.heap[w.heap.size]? = some (.cells #[.int .i64 x, vm, vf, ve] 46 (0, 0))) := by rw [← k0.out]; exact hF.out.block _ (Array.getElem?_eq_some_iff.1 k0.out).1 (fun e => nq.out e.symm)
  replace HF := Lib.hid (HF.out.trans (hF.out.mono fun b e => by subst e; exact HQ.out))
  clear hF H2
  obtain ⟨c0, c1, c2, c3⟩ := blk4 k0.out
  go_wp2_with fail
  clear c0 c1 c2 c3
  refine (markIntS_f ve n3 cs3 (k + 3 * n1 + n2) w2 H3.out Hl.out.2.2 (by omega) (by omega)).mono ?_
  rintro e w3 ⟨rfl, hF, hM3⟩
  replace hM1 := Lib.hid (hM1.out.stay (hF.out.ks.mono fun b e => by subst e; exact fun e => Hne.out.2.1 e))
  replace hM2 := Lib.hid (hM2.out.stay (hF.out.ks.mono fun b e => by subst e; exact fun e => Hne.out.2.2 e))
  replace HF := Lib.hid (HF.out.trans (hF.out.mono fun b e => by subst e; exact HR.out))
  clear hF H3 k0
  go_wp2
  go_ret
  exact ⟨rfl, HF.out, p, q, r, ⟨HP.out, HQ.out, HR.out⟩, Hne.out, hM1.out, hM2.out, hM3.out⟩
set_option maxHeartbeats 1000000 in
theorem heldNfa_f (x : Int) (vm vf ve : Value) (n1 n2 n3 : Nat) (k : Int) (w : World) (h : NfW S w vm vf ve n1 n2 n3 (mkc k (3 * n1)) (mkc (k + 3 * n1) n2) (mkc (k + 3 * n1 + n2) n3))
    (hk : 0 ≤ k ∧ k ≤ 1000000000000) (hs : n1 ≤ 100000000000 ∧ n2 ≤ 100000000000 ∧ n3 ≤ 100000000000) :
    Calls Try.prog 37 #[.agg #[.int .i64 x, vm, vf, ve], .int .i64 k] w fun e w' => e = .returned (.int .i64 (k + 3 * n1 + n2 + n3)) ∧ Below w.heap.size w w' := by
  obtain ⟨p, q, r, hS, hne, h1, h2, h3⟩ := h
  obtain ⟨W, hW⟩ : ∃ W, W = w.alloc (.cells #[.int .i64 x, vm, vf, ve] 46) := ⟨_, rfl⟩
  have hb0 : Below w.heap.size w W := by rw [hW]; exact (Below.refl _ _).alloc (Nat.le_refl _) _
  have k0 : Hid (W.heap[w.heap.size]? = some (.cells #[.int .i64 x, vm, vf, ve] 46 (0, 0))) := by rw [hW]; exact blkNew _ _ rfl
  have H1 := Lib.hid (h1.stay (ksB hb0)).fl; have H2 := Lib.hid (h2.stay (ksB hb0)).fl; have H3 := Lib.hid (h3.stay (ksB hb0)).fl
  have HB := Lib.hid hb0
  have HW := Lib.hid hW
  obtain ⟨hk0, hk1⟩ := hk
  obtain ⟨s1, s2, s3⟩ := hs
  clear h1 h2 h3 hb0 hW hne hS
  go_enter Try.func37, Try.ntmps37
  go_wp2_with fail
  rw [← HW.out]
  clear HW
  refine (heldMoveS_c vm n1 k W H1.out (by omega) (by omega)).mono ?_
  rintro e w1 ⟨rfl, rfl⟩
  obtain ⟨c0, c1, c2, c3⟩ := blk4 k0.out
  go_wp2_with fail
  clear c0 c1 c2 c3
  refine (heldIntS_c vf n2 (k + 3 * n1) W H2.out (by omega) (by omega)).mono ?_
  rintro e w2 ⟨rfl, rfl⟩
  obtain ⟨c0, c1, c2, c3⟩ := blk4 k0.out
  go_wp2_with fail
  clear c0 c1 c2 c3
  refine (heldIntS_c ve n3 (k + 3 * n1 + n2) W H3.out (by omega) (by omega)).mono ?_
  rintro e w3 ⟨rfl, rfl⟩
  go_wp2
  go_ret
  exact ⟨rfl, HB.out⟩
end Go.Proofs.Ytgihihnbapnnjaa
