/- Whether automata with choices are valid: the whole check. -/
import Derived.Test.YtgihihnbapnnjaaNfv
namespace Go.Proofs.Ytgihihnbapnnjaa
open Go.RowKit
set_option maxRecDepth 100000
variable {S T : Nat → Prop}
set_option maxHeartbeats 2000000 in
theorem NfaValid_c (vm vf ve : Value) (D : NfaD) (w : World) (h : NfaR S w vm vf ve D) : Calls Try.prog 78 #[.agg #[.int .i64 D.states, vm, vf, ve]] w (RBn w (okN D)) := by
  obtain ⟨a, ca, b, cb, d, cd, rfl, rfl, rfl, hm, hf, he⟩ := (h).shapes
  obtain ⟨W, hW⟩ : ∃ W, W = w.alloc (.cells #[.int .i64 D.states, .slice a D.moves.length ca, .slice b D.firsts.length cb, .slice d D.ends.length cd] 46) := ⟨_, rfl⟩
  have Hb0 : Hid (Below w.heap.size w W) := by rw [hW]; exact (Below.refl _ _).alloc (Nat.le_refl _) _
  have K0 : Hid (W.heap[w.heap.size]? = some (.cells #[.int .i64 D.states, .slice a D.moves.length ca, .slice b D.firsts.length cb, .slice d D.ends.length cd] 46 (0, 0))) := by rw [hW]; exact blkNew _ _ rfl
  have Hz : Hid (W.heap.size = w.heap.size + 1) := by rw [hW]; simp [Hid]
  have H := Lib.hid ((h).stay (kpB Hb0.out)); clear h
  have HW := Lib.hid hW; clear hW
  obtain ⟨c0, c1, c2, c3⟩ := blk4 K0.out
  rw [HW.out] at c0 c1 c2 c3
  go_enter Try.func78, Try.ntmps78
  go_wp2_with fail
  clear c0 c1 c2 c3
  rw [← HW.out]
  obtain ⟨c0, c1, c2, c3⟩ := blk4 K0.out
  clear HW
  refine (within_c D.states 0 40 W).mono ?_
  rintro e w' ⟨b1, rfl, rfl, h1⟩
  cases b1
  · have hp := Lib.hid (hbF h1); clear h1
    go_wp2
    go_ret
    exact RBn.mk Hb0.out ⟨nofun, fun ho => (hp.out ho.1).elim⟩
  · obtain ⟨hs0, hs1⟩ := hbT h1; clear h1
    by_cases hml : 400 < D.moves.length
    · have hmI : (400 : Int) < (D.moves.length : Int) := by omega
      go_wp2
      go_ret
      exact RBn.mk Hb0.out ⟨nofun, fun ho => by have := ho.2.1; omega⟩
    · have hmI : ¬ ((400 : Int) < (D.moves.length : Int)) := by omega
      go_wp2_with fail
      refine (areStates_c _ D.firsts D.states W H.out.2.1 (by omega)).mono ?_
      rintro e w' ⟨b2, rfl, rfl, h2⟩
      cases b2
      · have hp := Lib.hid (hbF h2); clear h2
        go_wp2
        go_ret
        exact RBn.mk Hb0.out ⟨nofun, fun ho => (hp.out ho.2.2.1).elim⟩
      · have hp2 := Lib.hid (hbT h2); clear h2
        go_wp2_with fail
        refine (areStates_c _ D.ends D.states W H.out.2.2 (by omega)).mono ?_
        rintro e w' ⟨b3, rfl, rfl, h3⟩
        cases b3
        · have hp := Lib.hid (hbF h3); clear h3
          go_wp2
          go_ret
          exact RBn.mk Hb0.out ⟨nofun, fun ho => (hp.out ho.2.2.2.1).elim⟩
        · have hp3 := Lib.hid (hbT h3); clear h3
          have HC := Lib.hid (contFuncMove_c _ D.moves W H.out.1 133 #[.pointer (some ⟨w.heap.size, 0, none⟩)] (fun m => ¬ okM D.states m) body_okMove (fun m _ w' hb => okMove_c m D.states _ w' (kpB (S := fun _ => True) hb _ _ trivial c0) ⟨hs0, hs1⟩))
          go_wp2_with fail
          clear c0 c1 c2 c3
          refine HC.out.mono ?_
          rintro e w2 ⟨b4, rfl, hb, h4⟩
          have hB := Lib.hid (Hb0.out.trans (hb.mono Hb0.out.size))
          clear HC hb
          cases b4
          · have hp := Lib.hid (hbF h4); clear h4
            go_wp2
            go_ret
            exact RBn.mk hB.out ⟨fun _ => ⟨⟨hs0, hs1⟩, by omega, hp2.out, hp3.out, fun m hm => Classical.byContradiction fun hn => hp.out ⟨m, hm, hn⟩⟩, fun _ => rfl⟩
          · have hp := Lib.hid (hbT h4); clear h4
            go_wp2
            go_ret
            exact RBn.mk hB.out ⟨nofun, fun ho => by obtain ⟨m, hm, hn⟩ := hp.out; exact (hn (ho.2.2.2.2 m hm)).elim⟩
set_option maxHeartbeats 2000000 in
theorem l8Set_c (v : Value) (xs : List Int) (n : Int) (w : World) (h : Ints S w v xs) (hn : 0 ≤ n ∧ n ≤ 1000000000) : Calls Try.prog 128 #[v, .int .i64 n] w (RBn w (okS xs n)) := by
  obtain ⟨a, cap, rfl, hl⟩ := h.shape
  have H := Lib.hid h; clear h
  obtain ⟨hn0, hn1⟩ := hn
  have hw1 : IntKind.i64.wrap (n - 1) = n - 1 := IntWalk.i64_in _ (by omega)
  have Hw1 := Lib.hid hw1
  clear hw1
  go_enter Try.func128, Try.ntmps128
  go_wp2
  go_loopw [5] (fun i wr => ∃ k : Nat, k ≤ xs.length ∧ i = .int .i64 k ∧ Hid (okSk xs n k) ∧ Below w.heap.size w wr) (fun i _ => xs.length - (intOf i).toNat)
  case atStart => exact ⟨0, by omega, rfl, okSk_zero _ _, Below.refl _ _⟩
  case round =>
    obtain ⟨k, hk, rfl, hr, hb⟩ := hrel
    by_cases hlt : k < xs.length
    · obtain ⟨b, off, rfl, hc⟩ := (Ints.stay H.out (kpB hb)).at hlt
      have hkI : (k : Int) < (xs.length : Int) := by omega
      obtain ⟨x, hx⟩ : ∃ x, x = xs[k] := ⟨_, rfl⟩
      rw [← hx] at hc
      have Hx := Lib.hid hx; clear hx
      by_cases hp : 0 ≤ x ∧ x ≤ n - 1
      · have hpb : pb (0 ≤ x ∧ x ≤ n - 1) = true := pb_true hp
        have HP := Lib.hid hp
        clear hp
        have hw1 := Hw1.out
        rcases Nat.eq_zero_or_pos k with hk0 | hk0
        · subst hk0
          rw [Nat.add_zero] at hc
          have hr2 : Hid (okSk xs n (0 + 1)) := okSk_next hr.out hlt (by rw [← Hx.out]; exact HP.out) (fun h => absurd h (Nat.lt_irrefl _))
          have hbq := fun q => Lib.hid (hb.trans ((belReflN wr.heap.size wr q).mono hb.size))
          go_wp2_with fail
          go_quiet ((go_at_call 127; exact Calls.quiet_of_same (RB.q (l1In_c x 0 (n - 1) _))))
          go_wp2
          go_roundw
          case rel => exact ⟨0 + 1, by omega, by go_num, hr2, (hbq _).out⟩
          case measure => simp [intOf]; omega
        · obtain ⟨j, rfl⟩ : ∃ j, k = j + 1 := ⟨k - 1, by omega⟩
          obtain ⟨b', off', e, hd⟩ := (Ints.stay H.out (kpB hb)).at (k := j) (by omega)
          cases e
          obtain ⟨y, hy⟩ : ∃ y, y = xs[j] := ⟨_, rfl⟩
          rw [← hy] at hd
          have Hy := Lib.hid hy; clear hy
          have hj1 : IntKind.i64.wrap (((j + 1 : Nat) : Int) - 1) = (j : Int) := by rw [IntWalk.i64_in _ (by omega)]; omega
          have hj0 : (0 : Int) < ((j + 1 : Nat) : Int) := by omega
          have hjI : (j : Int) < (xs.length : Int) := by omega
          have hbq := fun q => Lib.hid (hb.trans ((belReflN wr.heap.size wr q).mono hb.size))
          by_cases hge : x ≤ y
          · go_wp2_with fail
            go_quiet ((go_at_call 127; exact Calls.quiet_of_same (RB.q (l1In_c x 0 (n - 1) _))))
            go_wp2
            go_ret
            exact RBn.mk (hbq _).out ⟨nofun, fun ho => by
              have := (ho (j + 1) hlt hlt).2 (by omega)
              have e : xs[j + 1 - 1] = xs[j] := rfl
              rw [e, ← Hx.out, ← Hy.out] at this
              omega⟩
          · have hr2 : Hid (okSk xs n (j + 1 + 1)) := okSk_next hr.out hlt (by rw [← Hx.out]; exact HP.out) (fun _ => by
              have e : xs[j + 1 - 1] = xs[j] := rfl
              rw [e, ← Hx.out, ← Hy.out]
              omega)
            go_wp2_with fail
            go_quiet ((go_at_call 127; exact Calls.quiet_of_same (RB.q (l1In_c x 0 (n - 1) _))))
            go_wp2
            go_roundw
            case rel => exact ⟨j + 1 + 1, by omega, by go_num, hr2, (hbq _).out⟩
            case measure => simp [intOf]; omega
      · have hpb : pb (0 ≤ x ∧ x ≤ n - 1) = false := pb_false hp
        have HP := Lib.hid hp
        clear hp
        have hw1 := Hw1.out
        have hbq := fun q => Lib.hid (hb.trans ((belReflN wr.heap.size wr q).mono hb.size))
        go_wp2_with fail
        go_quiet ((go_at_call 127; exact Calls.quiet_of_same (RB.q (l1In_c x 0 (n - 1) _))))
        go_wp2
        go_ret
        exact RBn.mk (hbq _).out ⟨nofun, fun ho => by have := (ho k hlt hlt).1; rw [← Hx.out] at this; exact (HP.out this).elim⟩
    · obtain rfl : k = xs.length := by omega
      go_wp2
      go_ret
      exact RBn.mk hb ⟨fun _ => hr.out, fun _ => rfl⟩
set_option maxHeartbeats 4000000 in
theorem sNfaValid_c (vm vf ve : Value) (D : NfaD) (w : World) (h : NfaR S w vm vf ve D) : Calls Try.prog 74 #[.agg #[.int .i64 D.states, vm, vf, ve]] w (RBn w (okN D)) := by
  obtain ⟨a, ca, b, cb, d, cd, rfl, rfl, rfl, hm, hf, he⟩ := (h).shapes
  obtain ⟨W, hW⟩ : ∃ W, W = w.alloc (.cells #[.int .i64 D.states, .slice a D.moves.length ca, .slice b D.firsts.length cb, .slice d D.ends.length cd] 46) := ⟨_, rfl⟩
  have Hb0 : Hid (Below w.heap.size w W) := by rw [hW]; exact (Below.refl _ _).alloc (Nat.le_refl _) _
  have K0 : Hid (W.heap[w.heap.size]? = some (.cells #[.int .i64 D.states, .slice a D.moves.length ca, .slice b D.firsts.length cb, .slice d D.ends.length cd] 46 (0, 0))) := by rw [hW]; exact blkNew _ _ rfl
  have Hz : Hid (W.heap.size = w.heap.size + 1) := by rw [hW]; simp [Hid]
  have H := Lib.hid ((h).stay (kpB Hb0.out)); clear h
  have HW := Lib.hid hW; clear hW
  obtain ⟨c0, c1, c2, c3⟩ := blk4 K0.out
  rw [HW.out] at c0 c1 c2 c3
  by_cases hst : 0 ≤ D.states ∧ D.states ≤ 40
  · obtain ⟨hs0, hs1⟩ := hst
    go_enter Try.func74, Try.ntmps74
    go_wp2_with fail
    clear c0 c1 c2 c3
    rw [← HW.out]
    clear HW
    go_loopw [3] (fun i wr => ∃ k : Nat, k ≤ D.moves.length ∧ i = .int .i64 k ∧ Below W.heap.size W wr ∧ Hid (∀ j (hj : j < D.moves.length), j < k → okM D.states D.moves[j])) (fun i _ => D.moves.length - (intOf i).toNat)
    case atStart => exact ⟨0, by omega, rfl, Below.refl _ _, fun j _ hj => absurd hj (Nat.not_lt_zero _)⟩
    case round =>
      obtain ⟨k, hk, rfl, hb, hr⟩ := hrel
      obtain ⟨c0, c1, c2, c3⟩ := blk4 (blkBel hb K0.out)
      have hwl : w.heap.size < wr.heap.size := World.block_lt_of_cell? _ _ c0
      by_cases hlt : k < D.moves.length
      · obtain ⟨b', off, rfl, h0, h1, h2⟩ := (Trips.stay H.out.1 (kpB hb)).at hlt
        have hkI : (k : Int) < (D.moves.length : Int) := by omega
        obtain ⟨m, hm'⟩ : ∃ m, m = D.moves[k] := ⟨_, rfl⟩
        rw [← hm'] at h0 h1 h2
        have Hm := Lib.hid hm'; clear hm'
        obtain ⟨x, y, z⟩ := m
        dsimp only at h0 h1 h2
        obtain ⟨W2, hW2⟩ : ∃ W2, W2 = wr.alloc (.cells #[.int .i64 x, .int .i64 y, .int .i64 z] 89) := ⟨_, rfl⟩
        have hb2 : Below wr.heap.size wr W2 := by rw [hW2]; exact (Below.refl _ _).alloc (Nat.le_refl _) _
        have HB2 := Lib.hid (hb.trans (hb2.mono hb.size))
        have k3 : W2.heap[wr.heap.size]? = some (.cells #[.int .i64 x, .int .i64 y, .int .i64 z] 89 (0, 0)) := by rw [hW2]; exact blkNew _ _ rfl
        have K3 := Lib.hid k3
        have HW2 := Lib.hid hW2
        clear hW2 k3
        have hBf := Lib.hid (Hb0.out.trans (HB2.out.mono Hb0.out.size))
        go_wp2_with fail
        clear h0 h1 h2 c0 c1 c2 c3
        rw [← HW2.out]
        obtain ⟨c0, c1, c2, c3⟩ := blk4 (blkBel HB2.out K0.out)
        obtain ⟨d0, d1, d2⟩ := blk3 K3.out
        refine (l1In_c _ _ _ _).mono ?_
        rintro e w' ⟨b1, rfl, rfl, h1⟩
        cases b1
        · have hp := Lib.hid (hbF h1); clear h1
          go_wp2
          go_ret
          exact RBn.mk hBf.out ⟨nofun, fun ho => by have := ho.2.2.2.2 _ (List.getElem_mem hlt); rw [← Hm.out] at this; exact (hp.out this.1).elim⟩
        · have hp1 := Lib.hid (hbT h1); clear h1
          go_wp2_with fail
          refine (l1In_c _ _ _ _).mono ?_
          rintro e w' ⟨b2, rfl, rfl, h2⟩
          cases b2
          · have hp := Lib.hid (hbF h2); clear h2
            go_wp2
            go_ret
            exact RBn.mk hBf.out ⟨nofun, fun ho => by have := ho.2.2.2.2 _ (List.getElem_mem hlt); rw [← Hm.out] at this; exact (hp.out this.2.1).elim⟩
          · have hp2 := Lib.hid (hbT h2); clear h2
            go_wp2_with fail
            refine (l1In_c _ _ _ _).mono ?_
            rintro e w' ⟨b3, rfl, rfl, h3⟩
            cases b3
            · have hp := Lib.hid (hbF h3); clear h3
              go_wp2
              go_ret
              exact RBn.mk hBf.out ⟨nofun, fun ho => by have := ho.2.2.2.2 _ (List.getElem_mem hlt); rw [← Hm.out] at this; exact (hp.out this.2.2).elim⟩
            · have hp3 := Lib.hid (hbT h3); clear h3
              go_wp2
              go_roundw
              case rel => exact ⟨k + 1, by omega, by go_num, HB2.out, fun j hj hjk => by
                rcases Nat.lt_succ_iff_lt_or_eq.1 hjk with h | rfl
                · exact hr.out j hj h
                · rw [← Hm.out]; exact ⟨hp1.out, hp2.out, hp3.out⟩⟩
              case measure => simp [intOf]; omega
      · obtain rfl : k = D.moves.length := by omega
        have hnk : ¬ ((D.moves.length : Int) < (D.moves.length : Int)) := by omega
        have hBf := Lib.hid (Hb0.out.trans (hb.mono Hb0.out.size))
        have Hok : Hid (∀ m ∈ D.moves, okM D.states m) := fun m hm => by
          obtain ⟨j, hj, rfl⟩ := List.getElem_of_mem hm
          exact hr.out j hj hj
        go_wp2_with fail
        refine (l1In_c _ _ _ _).mono ?_
        rintro e w' ⟨b1, rfl, rfl, h1⟩
        cases b1
        · exact (hbF h1 ⟨hs0, hs1⟩).elim
        · clear h1
          by_cases hml : D.moves.length ≤ 400
          · have hmI : (D.moves.length : Int) ≤ 400 := by omega
            go_wp2_with fail
            clear c0 c1 c2 c3
            refine (l8Set_c _ D.firsts D.states wr (Ints.stay H.out.2.1 (kpB hb)) (by omega)).mono ?_
            rintro e w2 ⟨b2, rfl, hb2, h2⟩
            have HB2 := Lib.hid (hb.trans (hb2.mono hb.size))
            have hBf2 := Lib.hid (Hb0.out.trans (HB2.out.mono Hb0.out.size))
            obtain ⟨c0, c1, c2, c3⟩ := blk4 (blkBel HB2.out K0.out)
            clear hb2
            cases b2
            · have hp := Lib.hid (hbF h2); clear h2
              go_wp2
              go_ret
              exact RBn.mk hBf2.out ⟨nofun, fun ho => (hp.out ho.2.2.1).elim⟩
            · have hp2 := Lib.hid (hbT h2); clear h2
              go_wp2_with fail
              clear c0 c1 c2 c3
              refine (l8Set_c _ D.ends D.states w2 (Ints.stay H.out.2.2 (kpB HB2.out)) (by omega)).mono ?_
              rintro e w3 ⟨b3, rfl, hb3, h3⟩
              have hBf3 := Lib.hid (hBf2.out.trans (hb3.mono hBf2.out.size))
              clear hb3
              cases b3
              · have hp := Lib.hid (hbF h3); clear h3
                go_wp2
                go_ret
                exact RBn.mk hBf3.out ⟨nofun, fun ho => (hp.out ho.2.2.2.1).elim⟩
              · have hp3 := Lib.hid (hbT h3); clear h3
                go_wp2
                go_ret
                exact RBn.mk hBf3.out ⟨fun _ => ⟨⟨hs0, hs1⟩, hml, hp2.out, hp3.out, Hok.out⟩, fun _ => rfl⟩
          · have hmI : ¬ ((D.moves.length : Int) ≤ 400) := by omega
            go_wp2
            go_ret
            exact RBn.mk hBf.out ⟨nofun, fun ho => by have := ho.2.1; omega⟩
  · have Hst : Hid (¬ okN D) := fun ho => hst ho.1
    have Hst2 := Lib.hid hst
    clear hst
    go_enter Try.func74, Try.ntmps74
    go_wp2_with fail
    clear c0 c1 c2 c3
    rw [← HW.out]
    clear HW
    go_loopw [3] (fun i wr => ∃ k : Nat, k ≤ D.moves.length ∧ i = .int .i64 k ∧ Below W.heap.size W wr) (fun i _ => D.moves.length - (intOf i).toNat)
    case atStart => exact ⟨0, by omega, rfl, Below.refl _ _⟩
    case round =>
      obtain ⟨k, hk, rfl, hb⟩ := hrel
      obtain ⟨c0, c1, c2, c3⟩ := blk4 (blkBel hb K0.out)
      have hwl : w.heap.size < wr.heap.size := World.block_lt_of_cell? _ _ c0
      by_cases hlt : k < D.moves.length
      · obtain ⟨b', off, rfl, h0, h1, h2⟩ := (Trips.stay H.out.1 (kpB hb)).at hlt
        have hkI : (k : Int) < (D.moves.length : Int) := by omega
        obtain ⟨m, hm'⟩ : ∃ m, m = D.moves[k] := ⟨_, rfl⟩
        rw [← hm'] at h0 h1 h2
        clear hm'
        obtain ⟨x, y, z⟩ := m
        dsimp only at h0 h1 h2
        obtain ⟨W2, hW2⟩ : ∃ W2, W2 = wr.alloc (.cells #[.int .i64 x, .int .i64 y, .int .i64 z] 89) := ⟨_, rfl⟩
        have hb2 : Below wr.heap.size wr W2 := by rw [hW2]; exact (Below.refl _ _).alloc (Nat.le_refl _) _
        have HB2 := Lib.hid (hb.trans (hb2.mono hb.size))
        have k3 : W2.heap[wr.heap.size]? = some (.cells #[.int .i64 x, .int .i64 y, .int .i64 z] 89 (0, 0)) := by rw [hW2]; exact blkNew _ _ rfl
        have K3 := Lib.hid k3
        have HW2 := Lib.hid hW2
        clear hW2 k3
        have hBf := Lib.hid (Hb0.out.trans (HB2.out.mono Hb0.out.size))
        go_wp2_with fail
        clear h0 h1 h2 c0 c1 c2 c3
        rw [← HW2.out]
        obtain ⟨c0, c1, c2, c3⟩ := blk4 (blkBel HB2.out K0.out)
        obtain ⟨d0, d1, d2⟩ := blk3 K3.out
        refine (l1In_c _ _ _ _).mono ?_
        rintro e w' ⟨b1, rfl, rfl, h1⟩
        clear h1
        cases b1
        · go_wp2
          go_ret
          exact RBn.mk hBf.out ⟨nofun, fun ho => (Hst.out ho).elim⟩
        · go_wp2_with fail
          refine (l1In_c _ _ _ _).mono ?_
          rintro e w' ⟨b2, rfl, rfl, h2⟩
          clear h2
          cases b2
          · go_wp2
            go_ret
            exact RBn.mk hBf.out ⟨nofun, fun ho => (Hst.out ho).elim⟩
          · go_wp2_with fail
            refine (l1In_c _ _ _ _).mono ?_
            rintro e w' ⟨b3, rfl, rfl, h3⟩
            clear h3
            cases b3
            · go_wp2
              go_ret
              exact RBn.mk hBf.out ⟨nofun, fun ho => (Hst.out ho).elim⟩
            · go_wp2
              go_roundw
              case rel => exact ⟨k + 1, by omega, by go_num, HB2.out⟩
              case measure => simp [intOf]; omega
      · obtain rfl : k = D.moves.length := by omega
        have hnk : ¬ ((D.moves.length : Int) < (D.moves.length : Int)) := by omega
        have hBf := Lib.hid (Hb0.out.trans (hb.mono Hb0.out.size))
        go_wp2_with fail
        refine (l1In_c _ _ _ _).mono ?_
        rintro e w' ⟨b1, rfl, rfl, h1⟩
        cases b1
        · clear h1
          go_wp2
          go_ret
          exact RBn.mk hBf.out ⟨nofun, fun ho => (Hst.out ho).elim⟩
        · exact (Hst2.out (hbT h1)).elim
end Go.Proofs.Ytgihihnbapnnjaa
