/- Whether automata with choices are valid: the program's and the reference's.
Whether automata with choices are valid: the whole check.
The laws' small helpers: sizes, copies, comparisons of equal data, marks. Sizes of at most 1048576.
The laws' marks: what a mark writes, and that a held mark is found. Sizes of at most 10^12.
The laws' helpers on nested data: sizes, copies. Sizes of at most 1048576.
The laws' comparisons of equal data: automata, spans, tokens. No condition.
Marks of automata.
The semantic laws' comparisons: lists of numbers, of marks, automata. -/
import Derived.StillTailTactics
import Derived.Test.YtbcjhiponbfbnaaGB
import Derived.Test.YtbcjhiponbfbnaaGA
set_option linter.unusedSimpArgs false
set_option linter.unusedVariables false
set_option linter.unusedSectionVars false
namespace Go.Proofs.Ytbcjhiponbfbnaa
open Go.RowKit
set_option maxRecDepth 100000
variable {S T : Nat → Prop}
/-- Numbers of states, ascending, as far as k. -/
def okSk (xs : List Int) (n : Int) (k : Nat) : Prop := ∀ i (h : i < xs.length), i < k → (0 ≤ xs[i] ∧ xs[i] ≤ n - 1) ∧ (0 < i → xs[i - 1] < xs[i])
def okS (xs : List Int) (n : Int) : Prop := okSk xs n xs.length
def okM (n : Int) (m : Int × Int × Int) : Prop := (0 ≤ m.1 ∧ m.1 ≤ n - 1) ∧ (0 ≤ m.2.2 ∧ m.2.2 ≤ n - 1) ∧ (-1 ≤ m.2.1 ∧ m.2.1 ≤ 2)
/-- The automaton is valid. -/
def okN (D : NfaD) : Prop := (0 ≤ D.states ∧ D.states ≤ 40) ∧ D.moves.length ≤ 400 ∧ okS D.firsts D.states ∧ okS D.ends D.states ∧ ∀ m ∈ D.moves, okM D.states m
theorem okSk_zero (xs : List Int) (n : Int) : okSk xs n 0 := fun _ _ h => absurd h (Nat.not_lt_zero _)
theorem okSk_next {xs : List Int} {n : Int} {k : Nat} (h : okSk xs n k) (hk : k < xs.length) (h1 : 0 ≤ xs[k] ∧ xs[k] ≤ n - 1) (h2 : 0 < k → xs[k - 1] < xs[k]) : okSk xs n (k + 1) := fun i hi hik => by
  rcases Nat.lt_succ_iff_lt_or_eq.1 hik with h3 | rfl
  · exact h i hi h3
  · exact ⟨h1, h2⟩
theorem okS_all {xs : List Int} {n : Int} (h : okSk xs n xs.length) : okS xs n := h
theorem NfaR.shapes {w : World} {vm vf ve : Value} {D : NfaD} (h : NfaR S w vm vf ve D) : ∃ a ca b cb d cd, vm = .slice a D.moves.length ca ∧ vf = .slice b D.firsts.length cb ∧ ve = .slice d D.ends.length cd ∧ D.moves.length ≤ 9223372036854775807 ∧ D.firsts.length ≤ 9223372036854775807 ∧ D.ends.length ≤ 9223372036854775807 := by
  obtain ⟨a, ca, e1, h1⟩ := Trips.shape h.1
  obtain ⟨b, cb, e2, h2⟩ := Ints.shape h.2.1
  obtain ⟨d, cd, e3, h3⟩ := Ints.shape h.2.2
  exact ⟨a, ca, b, cb, d, cd, e1, e2, e3, h1, h2, h3⟩
theorem blk4 {w : World} {b : Nat} {x y z u : Value} {t : TypeId} (h : w.heap[b]? = some (.cells #[x, y, z, u] t (0, 0))) :
    w.cell? ⟨b, 0, none⟩ = some x ∧ w.cell? ⟨b, 1, none⟩ = some y ∧ w.cell? ⟨b, 2, none⟩ = some z ∧ w.cell? ⟨b, 3, none⟩ = some u :=
  ⟨by rw [cell_of_row w b 0 _ _ _ h]; rfl, by rw [cell_of_row w b 1 _ _ _ h]; rfl, by rw [cell_of_row w b 2 _ _ _ h]; rfl, by rw [cell_of_row w b 3 _ _ _ h]; rfl⟩
theorem blk3 {w : World} {b : Nat} {x y z : Value} {t : TypeId} (h : w.heap[b]? = some (.cells #[x, y, z] t (0, 0))) :
    w.cell? ⟨b, 0, none⟩ = some x ∧ w.cell? ⟨b, 1, none⟩ = some y ∧ w.cell? ⟨b, 2, none⟩ = some z :=
  ⟨by rw [cell_of_row w b 0 _ _ _ h]; rfl, by rw [cell_of_row w b 1 _ _ _ h]; rfl, by rw [cell_of_row w b 2 _ _ _ h]; rfl⟩
set_option maxHeartbeats 1000000 in
theorem areStates_c (v : Value) (xs : List Int) (n : Int) (w : World) (h : Ints S w v xs) (hn : 0 ≤ n ∧ n ≤ 1000000000) : Calls Try.prog 52 #[v, .int .i64 n] w (RB w (okS xs n)) := by
  obtain ⟨a, cap, rfl, hl⟩ := h.shape
  have H := Lib.hid h; clear h
  obtain ⟨hn0, hn1⟩ := hn
  go_enter Try.func52, Try.ntmps52
  go_wp2
  go_loop [9] (fun i => ∃ k : Nat, k ≤ xs.length ∧ i = .int .i64 k ∧ Hid (okSk xs n k)) (fun i => xs.length - (intOf i).toNat)
  case atStart => exact ⟨0, by omega, rfl, okSk_zero _ _⟩
  case round =>
    obtain ⟨k, hk, rfl, hr⟩ := hrel
    by_cases hlt : k < xs.length
    · obtain ⟨b, off, rfl, hc⟩ := H.out.at hlt
      have hkI : (k : Int) < (xs.length : Int) := by omega
      have Hno : Hid (∀ P : Prop, (okS xs n → P) ∨ True) := fun _ => .inr trivial
      clear Hno
      obtain ⟨x, hx⟩ : ∃ x, x = xs[k] := ⟨_, rfl⟩
      rw [← hx] at hc
      have Hx := Lib.hid hx; clear hx
      go_wp2_with fail
      refine (within_c x 0 (n - 1) w).mono ?_
      rintro e w' ⟨bb, rfl, rfl, hb⟩
      cases bb
      · have hp := Lib.hid (hbF hb); clear hb
        go_wp2
        go_ret
        exact RB.mk ⟨nofun, fun ho => by have := (ho k hlt hlt).1; rw [← Hx.out] at this; exact (hp.out this).elim⟩
      · have hp := Lib.hid (hbT hb); clear hb
        rcases Nat.eq_zero_or_pos k with hk0 | hk0
        · subst hk0
          have hr2 : Hid (okSk xs n (0 + 1)) := okSk_next hr.out hlt (by rw [← Hx.out]; exact hp.out) (fun h => absurd h (Nat.lt_irrefl _))
          go_wp2
          go_round
          case rel => exact ⟨0 + 1, by omega, by go_num, hr2⟩
          case measure => simp [intOf]; omega
        · obtain ⟨j, rfl⟩ : ∃ j, k = j + 1 := ⟨k - 1, by omega⟩
          obtain ⟨b', off', e, hd⟩ := H.out.at (k := j) (by omega)
          cases e
          obtain ⟨y, hy⟩ : ∃ y, y = xs[j] := ⟨_, rfl⟩
          rw [← hy] at hd
          have Hy := Lib.hid hy; clear hy
          have hj1 : ((j + 1 : Nat) : Int) - 1 = (j : Int) := by omega
          have hj0 : (0 : Int) < ((j + 1 : Nat) : Int) := by omega
          by_cases hge : x ≤ y
          · go_wp2
            go_ret
            exact RB.mk ⟨nofun, fun ho => by
              have := (ho (j + 1) hlt hlt).2 (by omega)
              have e : xs[j + 1 - 1] = xs[j] := rfl
              rw [e, ← Hx.out, ← Hy.out] at this
              omega⟩
          · have hr2 : Hid (okSk xs n (j + 1 + 1)) := okSk_next hr.out hlt (by rw [← Hx.out]; exact hp.out) (fun _ => by
              have e : xs[j + 1 - 1] = xs[j] := rfl
              rw [e, ← Hx.out, ← Hy.out]
              omega)
            go_wp2
            go_round
            case rel => exact ⟨j + 1 + 1, by omega, by go_num, hr2⟩
            case measure => simp [intOf]; omega
    · obtain rfl : k = xs.length := by omega
      go_wp2
      go_ret
      exact RB.mk ⟨fun _ => hr.out, fun _ => rfl⟩
theorem idxFuncMove_c (v : Value) (xs : List (Int × Int × Int)) (w : World) (h : Trips S w v xs) (f : FuncId) (cs : Array Value) (p : Int × Int × Int → Prop) (hcf : HasBody f)
    (hf : ∀ x ∈ xs, ∀ w', Below w.heap.size w w' → Calls Try.prog f (#[.agg #[.int .i64 x.1, .int .i64 x.2.1, .int .i64 x.2.2]] ++ cs) w' (RBn w' (p x))) :
    Calls Try.prog 93 #[v, .func (.func f) #[] cs] w (RIn w fun n => (n = -1 ∧ ∀ x ∈ xs, ¬ p x) ∨ (0 ≤ n ∧ ∃ x ∈ xs, p x)) := by
  obtain ⟨a, cap, rfl, hn⟩ := h.shape
  have H := Lib.hid h; clear h
  have HF := Lib.hid hf; clear hf
  have HC := Lib.hid hcf; clear hcf
  go_enter Try.func93, Try.ntmps93
  go_wp2
  go_loopw [8] (fun i wr => ∃ k : Nat, k ≤ xs.length ∧ i = .int .i64 k ∧ Below w.heap.size w wr ∧ Hid (∀ j (hj : j < xs.length), j < k → ¬ p xs[j])) (fun i _ => xs.length - (intOf i).toNat)
  case atStart => exact ⟨0, by omega, rfl, Below.refl _ _, fun j _ hj => absurd hj (Nat.not_lt_zero _)⟩
  case round =>
    obtain ⟨k, hk, rfl, hb, hr⟩ := hrel
    by_cases hlt : k < xs.length
    · obtain ⟨b, off, rfl, h0, h1, h2⟩ := (Trips.stay H.out (kpB hb)).at hlt
      have Hf := Lib.hid (HF.out _ (List.getElem_mem hlt) wr hb)
      obtain ⟨x, hx⟩ : ∃ x, x = xs[k] := ⟨_, rfl⟩
      rw [← hx] at h0 h1 h2 Hf
      have Hx := Lib.hid hx; clear hx
      go_wp2_with fail
      rw [HC.out, Oper.upon_enter]
      refine Hf.out.mono ?_
      rintro e w' ⟨b, rfl, hb2, hbp⟩
      have hB := hb.trans (hb2.mono hb.size)
      clear h0 h1 h2 hb hb2
      cases b
      · have hp := Lib.hid (hbF hbp); clear hbp
        go_wp2
        go_roundw
        case rel => exact ⟨k + 1, by omega, by go_num, hB, fun j hj hjk => by
          rcases Nat.lt_succ_iff_lt_or_eq.1 hjk with h | rfl
          · exact hr.out j hj h
          · rw [← Hx.out]; exact hp.out⟩
        case measure => simp [intOf]; omega
      · have hp := Lib.hid (hbT hbp); clear hbp
        go_wp2
        go_ret
        exact RIn.mk hB (.inr ⟨by omega, x, by rw [Hx.out]; exact List.getElem_mem hlt, hp.out⟩)
    · go_wp2
      go_ret
      exact RIn.mk hb (.inl ⟨rfl, fun x hx => by
        obtain ⟨j, hj, rfl⟩ := List.getElem_of_mem hx
        exact hr.out j hj (by omega)⟩)
theorem contFuncMove_c (v : Value) (xs : List (Int × Int × Int)) (w : World) (h : Trips S w v xs) (f : FuncId) (cs : Array Value) (p : Int × Int × Int → Prop) (hcf : HasBody f)
    (hf : ∀ x ∈ xs, ∀ w', Below w.heap.size w w' → Calls Try.prog f (#[.agg #[.int .i64 x.1, .int .i64 x.2.1, .int .i64 x.2.2]] ++ cs) w' (RBn w' (p x))) :
    Calls Try.prog 53 #[v, .func (.func f) #[] cs] w (RBn w (∃ x ∈ xs, p x)) := by
  have H := Lib.hid (idxFuncMove_c v xs w h f cs p hcf hf)
  clear h hf hcf
  go_enter Try.func53, Try.ntmps53
  go_wp2_with fail
  refine H.out.mono ?_
  rintro e w' ⟨n, rfl, hb, hn⟩
  rcases hn.out with ⟨rfl, h⟩ | ⟨h0, h⟩
  · have h' := Lib.hid h
    clear hn h
    go_wp2
    go_ret
    exact RBn.mk hb ⟨nofun, fun ⟨x, hx, hp⟩ => (h'.out x hx hp).elim⟩
  · have h' := Lib.hid h
    clear hn h
    go_wp2
    go_ret
    exact RBn.mk hb ⟨fun _ => h'.out, fun _ => rfl⟩
set_option maxHeartbeats 1000000 in
theorem okMove_c (m : Int × Int × Int) (n : Int) (B : Nat) (w : World) (h : w.cell? ⟨B, 0, none⟩ = some (.int .i64 n)) (hn : 0 ≤ n ∧ n ≤ 40) :
    Calls Try.prog 54 (#[.agg #[.int .i64 m.1, .int .i64 m.2.1, .int .i64 m.2.2]] ++ #[.pointer (some ⟨B, 0, none⟩)]) w (RBn w (¬ okM n m)) := by
  obtain ⟨x, y, z⟩ := m
  obtain ⟨hn0, hn1⟩ := hn
  have hBl : B < w.heap.size := World.block_lt_of_cell? _ _ h
  dsimp only
  have hb0 : Below w.heap.size w (w.alloc (.cells #[.int .i64 x, .int .i64 y, .int .i64 z] 40)) := (Below.refl _ _).alloc (Nat.le_refl _) _
  have Hb0 := Lib.hid hb0
  clear hb0
  go_enter Try.func54, Try.ntmps54
  go_wp2_with fail
  refine (within_c x 0 (n - 1) _).mono ?_
  rintro e w' ⟨b1, rfl, rfl, h1⟩
  cases b1
  · have hp := Lib.hid (hbF h1); clear h1
    go_wp2
    go_ret
    exact RBn.mk Hb0.out ⟨fun _ ho => hp.out ho.1, fun _ => rfl⟩
  · have hp1 := Lib.hid (hbT h1); clear h1
    go_wp2_with fail
    refine (within_c z 0 (n - 1) _).mono ?_
    rintro e w' ⟨b2, rfl, rfl, h2⟩
    cases b2
    · have hp := Lib.hid (hbF h2); clear h2
      go_wp2
      go_ret
      exact RBn.mk Hb0.out ⟨fun _ ho => hp.out ho.2.1, fun _ => rfl⟩
    · have hp2 := Lib.hid (hbT h2); clear h2
      go_wp2_with fail
      refine (within_c y (-1) 2 _).mono ?_
      rintro e w' ⟨b3, rfl, rfl, h3⟩
      cases b3
      · have hp := Lib.hid (hbF h3); clear h3
        go_wp2
        go_ret
        exact RBn.mk Hb0.out ⟨fun _ ho => hp.out ho.2.2, fun _ => rfl⟩
      · have hp3 := Lib.hid (hbT h3); clear h3
        go_wp2
        go_ret
        exact RBn.mk Hb0.out ⟨nofun, fun h => (h ⟨hp1.out, hp2.out, hp3.out⟩).elim⟩
theorem body_okMove : HasBody 54 := by
  intro args w
  kernel_rfl
end Go.Proofs.Ytbcjhiponbfbnaa
namespace Go.Proofs.Ytbcjhiponbfbnaa
open Go.RowKit
set_option maxRecDepth 100000
variable {S T : Nat → Prop}
set_option maxHeartbeats 2000000 in
theorem NfaValid_c (vm vf ve : Value) (D : NfaD) (w : World) (h : NfaR S w vm vf ve D) : Calls Try.prog 16 #[.agg #[.int .i64 D.states, vm, vf, ve]] w (RBn w (okN D)) := by
  obtain ⟨a, ca, b, cb, d, cd, rfl, rfl, rfl, hm, hf, he⟩ := (h).shapes
  obtain ⟨W, hW⟩ : ∃ W, W = w.alloc (.cells #[.int .i64 D.states, .slice a D.moves.length ca, .slice b D.firsts.length cb, .slice d D.ends.length cd] 36) := ⟨_, rfl⟩
  have Hb0 : Hid (Below w.heap.size w W) := by rw [hW]; exact (Below.refl _ _).alloc (Nat.le_refl _) _
  have K0 : Hid (W.heap[w.heap.size]? = some (.cells #[.int .i64 D.states, .slice a D.moves.length ca, .slice b D.firsts.length cb, .slice d D.ends.length cd] 36 (0, 0))) := by rw [hW]; exact blkNew _ _ rfl
  have Hz : Hid (W.heap.size = w.heap.size + 1) := by rw [hW]; simp [Hid]
  have H := Lib.hid ((h).stay (kpB Hb0.out)); clear h
  have HW := Lib.hid hW; clear hW
  obtain ⟨c0, c1, c2, c3⟩ := blk4 K0.out
  rw [HW.out] at c0 c1 c2 c3
  go_enter Try.func16, Try.ntmps16
  go_wp2_with fail
  clear c0 c1 c2 c3
  rw [← HW.out]
  obtain ⟨c0, c1, c2, c3⟩ := blk4 K0.out
  clear HW
  refine (within_c D.states 0 40 W).mono ?_
  rintro e w' ⟨b1, rfl, rfl, h1⟩
  cases b1
  · have hp := Lib.hid (hbF h1); clear h1
    go_wp2
    go_ret
    exact RBn.mk Hb0.out ⟨nofun, fun ho => (hp.out ho.1).elim⟩
  · obtain ⟨hs0, hs1⟩ := hbT h1; clear h1
    by_cases hml : 400 < D.moves.length
    · have hmI : (400 : Int) < (D.moves.length : Int) := by omega
      go_wp2
      go_ret
      exact RBn.mk Hb0.out ⟨nofun, fun ho => by have := ho.2.1; omega⟩
    · have hmI : ¬ ((400 : Int) < (D.moves.length : Int)) := by omega
      go_wp2_with fail
      refine (areStates_c _ D.firsts D.states W H.out.2.1 (by omega)).mono ?_
      rintro e w' ⟨b2, rfl, rfl, h2⟩
      cases b2
      · have hp := Lib.hid (hbF h2); clear h2
        go_wp2
        go_ret
        exact RBn.mk Hb0.out ⟨nofun, fun ho => (hp.out ho.2.2.1).elim⟩
      · have hp2 := Lib.hid (hbT h2); clear h2
        go_wp2_with fail
        refine (areStates_c _ D.ends D.states W H.out.2.2 (by omega)).mono ?_
        rintro e w' ⟨b3, rfl, rfl, h3⟩
        cases b3
        · have hp := Lib.hid (hbF h3); clear h3
          go_wp2
          go_ret
          exact RBn.mk Hb0.out ⟨nofun, fun ho => (hp.out ho.2.2.2.1).elim⟩
        · have hp3 := Lib.hid (hbT h3); clear h3
          have HC := Lib.hid (contFuncMove_c _ D.moves W H.out.1 54 #[.pointer (some ⟨w.heap.size, 0, none⟩)] (fun m => ¬ okM D.states m) body_okMove (fun m _ w' hb => okMove_c m D.states _ w' (kpB (S := fun _ => True) hb _ _ trivial c0) ⟨hs0, hs1⟩))
          go_wp2_with fail
          clear c0 c1 c2 c3
          refine HC.out.mono ?_
          rintro e w2 ⟨b4, rfl, hb, h4⟩
          have hB := Lib.hid (Hb0.out.trans (hb.mono Hb0.out.size))
          clear HC hb
          cases b4
          · have hp := Lib.hid (hbF h4); clear h4
            go_wp2
            go_ret
            exact RBn.mk hB.out ⟨fun _ => ⟨⟨hs0, hs1⟩, by omega, hp2.out, hp3.out, fun m hm => Classical.byContradiction fun hn => hp.out ⟨m, hm, hn⟩⟩, fun _ => rfl⟩
          · have hp := Lib.hid (hbT h4); clear h4
            go_wp2
            go_ret
            exact RBn.mk hB.out ⟨nofun, fun ho => by obtain ⟨m, hm, hn⟩ := hp.out; exact (hn (ho.2.2.2.2 m hm)).elim⟩
set_option maxHeartbeats 2000000 in
theorem l8Set_c (v : Value) (xs : List Int) (n : Int) (w : World) (h : Ints S w v xs) (hn : 0 ≤ n ∧ n ≤ 1000000000) : Calls Try.prog 56 #[v, .int .i64 n] w (RBn w (okS xs n)) := by
  obtain ⟨a, cap, rfl, hl⟩ := h.shape
  have H := Lib.hid h; clear h
  obtain ⟨hn0, hn1⟩ := hn
  have hw1 : IntKind.i64.wrap (n - 1) = n - 1 := IntWalk.i64_in _ (by omega)
  have Hw1 := Lib.hid hw1
  clear hw1
  go_enter Try.func56, Try.ntmps56
  go_wp2
  go_loopw [5] (fun i wr => ∃ k : Nat, k ≤ xs.length ∧ i = .int .i64 k ∧ Hid (okSk xs n k) ∧ Below w.heap.size w wr) (fun i _ => xs.length - (intOf i).toNat)
  case atStart => exact ⟨0, by omega, rfl, okSk_zero _ _, Below.refl _ _⟩
  case round =>
    obtain ⟨k, hk, rfl, hr, hb⟩ := hrel
    by_cases hlt : k < xs.length
    · obtain ⟨b, off, rfl, hc⟩ := (Ints.stay H.out (kpB hb)).at hlt
      have hkI : (k : Int) < (xs.length : Int) := by omega
      obtain ⟨x, hx⟩ : ∃ x, x = xs[k] := ⟨_, rfl⟩
      rw [← hx] at hc
      have Hx := Lib.hid hx; clear hx
      by_cases hp : 0 ≤ x ∧ x ≤ n - 1
      · have hpb : pb (0 ≤ x ∧ x ≤ n - 1) = true := pb_true hp
        have HP := Lib.hid hp
        clear hp
        have hw1 := Hw1.out
        rcases Nat.eq_zero_or_pos k with hk0 | hk0
        · subst hk0
          rw [Nat.add_zero] at hc
          have hr2 : Hid (okSk xs n (0 + 1)) := okSk_next hr.out hlt (by rw [← Hx.out]; exact HP.out) (fun h => absurd h (Nat.lt_irrefl _))
          have hbq := fun q => Lib.hid (hb.trans ((belReflN wr.heap.size wr q).mono hb.size))
          go_wp2_with fail
          go_quiet ((go_at_call 55; exact Calls.quiet_of_same (RB.q (l1In_c x 0 (n - 1) _))))
          go_wp2
          go_roundw
          case rel => exact ⟨0 + 1, by omega, by go_num, hr2, (hbq _).out⟩
          case measure => simp [intOf]; omega
        · obtain ⟨j, rfl⟩ : ∃ j, k = j + 1 := ⟨k - 1, by omega⟩
          obtain ⟨b', off', e, hd⟩ := (Ints.stay H.out (kpB hb)).at (k := j) (by omega)
          cases e
          obtain ⟨y, hy⟩ : ∃ y, y = xs[j] := ⟨_, rfl⟩
          rw [← hy] at hd
          have Hy := Lib.hid hy; clear hy
          have hj1 : IntKind.i64.wrap (((j + 1 : Nat) : Int) - 1) = (j : Int) := by rw [IntWalk.i64_in _ (by omega)]; omega
          have hj0 : (0 : Int) < ((j + 1 : Nat) : Int) := by omega
          have hjI : (j : Int) < (xs.length : Int) := by omega
          have hbq := fun q => Lib.hid (hb.trans ((belReflN wr.heap.size wr q).mono hb.size))
          by_cases hge : x ≤ y
          · go_wp2_with fail
            go_quiet ((go_at_call 55; exact Calls.quiet_of_same (RB.q (l1In_c x 0 (n - 1) _))))
            go_wp2
            go_ret
            exact RBn.mk (hbq _).out ⟨nofun, fun ho => by
              have := (ho (j + 1) hlt hlt).2 (by omega)
              have e : xs[j + 1 - 1] = xs[j] := rfl
              rw [e, ← Hx.out, ← Hy.out] at this
              omega⟩
          · have hr2 : Hid (okSk xs n (j + 1 + 1)) := okSk_next hr.out hlt (by rw [← Hx.out]; exact HP.out) (fun _ => by
              have e : xs[j + 1 - 1] = xs[j] := rfl
              rw [e, ← Hx.out, ← Hy.out]
              omega)
            go_wp2_with fail
            go_quiet ((go_at_call 55; exact Calls.quiet_of_same (RB.q (l1In_c x 0 (n - 1) _))))
            go_wp2
            go_roundw
            case rel => exact ⟨j + 1 + 1, by omega, by go_num, hr2, (hbq _).out⟩
            case measure => simp [intOf]; omega
      · have hpb : pb (0 ≤ x ∧ x ≤ n - 1) = false := pb_false hp
        have HP := Lib.hid hp
        clear hp
        have hw1 := Hw1.out
        have hbq := fun q => Lib.hid (hb.trans ((belReflN wr.heap.size wr q).mono hb.size))
        go_wp2_with fail
        go_quiet ((go_at_call 55; exact Calls.quiet_of_same (RB.q (l1In_c x 0 (n - 1) _))))
        go_wp2
        go_ret
        exact RBn.mk (hbq _).out ⟨nofun, fun ho => by have := (ho k hlt hlt).1; rw [← Hx.out] at this; exact (HP.out this).elim⟩
    · obtain rfl : k = xs.length := by omega
      go_wp2
      go_ret
      exact RBn.mk hb ⟨fun _ => hr.out, fun _ => rfl⟩
set_option maxHeartbeats 4000000 in
theorem sNfaValid_c (vm vf ve : Value) (D : NfaD) (w : World) (h : NfaR S w vm vf ve D) : Calls Try.prog 17 #[.agg #[.int .i64 D.states, vm, vf, ve]] w (RBn w (okN D)) := by
  obtain ⟨a, ca, b, cb, d, cd, rfl, rfl, rfl, hm, hf, he⟩ := (h).shapes
  obtain ⟨W, hW⟩ : ∃ W, W = w.alloc (.cells #[.int .i64 D.states, .slice a D.moves.length ca, .slice b D.firsts.length cb, .slice d D.ends.length cd] 36) := ⟨_, rfl⟩
  have Hb0 : Hid (Below w.heap.size w W) := by rw [hW]; exact (Below.refl _ _).alloc (Nat.le_refl _) _
  have K0 : Hid (W.heap[w.heap.size]? = some (.cells #[.int .i64 D.states, .slice a D.moves.length ca, .slice b D.firsts.length cb, .slice d D.ends.length cd] 36 (0, 0))) := by rw [hW]; exact blkNew _ _ rfl
  have Hz : Hid (W.heap.size = w.heap.size + 1) := by rw [hW]; simp [Hid]
  have H := Lib.hid ((h).stay (kpB Hb0.out)); clear h
  have HW := Lib.hid hW; clear hW
  obtain ⟨c0, c1, c2, c3⟩ := blk4 K0.out
  rw [HW.out] at c0 c1 c2 c3
  by_cases hst : 0 ≤ D.states ∧ D.states ≤ 40
  · obtain ⟨hs0, hs1⟩ := hst
    go_enter Try.func17, Try.ntmps17
    go_wp2_with fail
    clear c0 c1 c2 c3
    rw [← HW.out]
    clear HW
    go_loopw [3] (fun i wr => ∃ k : Nat, k ≤ D.moves.length ∧ i = .int .i64 k ∧ Below W.heap.size W wr ∧ Hid (∀ j (hj : j < D.moves.length), j < k → okM D.states D.moves[j])) (fun i _ => D.moves.length - (intOf i).toNat)
    case atStart => exact ⟨0, by omega, rfl, Below.refl _ _, fun j _ hj => absurd hj (Nat.not_lt_zero _)⟩
    case round =>
      obtain ⟨k, hk, rfl, hb, hr⟩ := hrel
      obtain ⟨c0, c1, c2, c3⟩ := blk4 (blkBel hb K0.out)
      have hwl : w.heap.size < wr.heap.size := World.block_lt_of_cell? _ _ c0
      by_cases hlt : k < D.moves.length
      · obtain ⟨b', off, rfl, h0, h1, h2⟩ := (Trips.stay H.out.1 (kpB hb)).at hlt
        have hkI : (k : Int) < (D.moves.length : Int) := by omega
        obtain ⟨m, hm'⟩ : ∃ m, m = D.moves[k] := ⟨_, rfl⟩
        rw [← hm'] at h0 h1 h2
        have Hm := Lib.hid hm'; clear hm'
        obtain ⟨x, y, z⟩ := m
        dsimp only at h0 h1 h2
        obtain ⟨W2, hW2⟩ : ∃ W2, W2 = wr.alloc (.cells #[.int .i64 x, .int .i64 y, .int .i64 z] 40) := ⟨_, rfl⟩
        have hb2 : Below wr.heap.size wr W2 := by rw [hW2]; exact (Below.refl _ _).alloc (Nat.le_refl _) _
        have HB2 := Lib.hid (hb.trans (hb2.mono hb.size))
        have k3 : W2.heap[wr.heap.size]? = some (.cells #[.int .i64 x, .int .i64 y, .int .i64 z] 40 (0, 0)) := by rw [hW2]; exact blkNew _ _ rfl
        have K3 := Lib.hid k3
        have HW2 := Lib.hid hW2
        clear hW2 k3
        have hBf := Lib.hid (Hb0.out.trans (HB2.out.mono Hb0.out.size))
        go_wp2_with fail
        clear h0 h1 h2 c0 c1 c2 c3
        rw [← HW2.out]
        obtain ⟨c0, c1, c2, c3⟩ := blk4 (blkBel HB2.out K0.out)
        obtain ⟨d0, d1, d2⟩ := blk3 K3.out
        refine (l1In_c _ _ _ _).mono ?_
        rintro e w' ⟨b1, rfl, rfl, h1⟩
        cases b1
        · have hp := Lib.hid (hbF h1); clear h1
          go_wp2
          go_ret
          exact RBn.mk hBf.out ⟨nofun, fun ho => by have := ho.2.2.2.2 _ (List.getElem_mem hlt); rw [← Hm.out] at this; exact (hp.out this.1).elim⟩
        · have hp1 := Lib.hid (hbT h1); clear h1
          go_wp2_with fail
          refine (l1In_c _ _ _ _).mono ?_
          rintro e w' ⟨b2, rfl, rfl, h2⟩
          cases b2
          · have hp := Lib.hid (hbF h2); clear h2
            go_wp2
            go_ret
            exact RBn.mk hBf.out ⟨nofun, fun ho => by have := ho.2.2.2.2 _ (List.getElem_mem hlt); rw [← Hm.out] at this; exact (hp.out this.2.1).elim⟩
          · have hp2 := Lib.hid (hbT h2); clear h2
            go_wp2_with fail
            refine (l1In_c _ _ _ _).mono ?_
            rintro e w' ⟨b3, rfl, rfl, h3⟩
            cases b3
            · have hp := Lib.hid (hbF h3); clear h3
              go_wp2
              go_ret
              exact RBn.mk hBf.out ⟨nofun, fun ho => by have := ho.2.2.2.2 _ (List.getElem_mem hlt); rw [← Hm.out] at this; exact (hp.out this.2.2).elim⟩
            · have hp3 := Lib.hid (hbT h3); clear h3
              go_wp2
              go_roundw
              case rel => exact ⟨k + 1, by omega, by go_num, HB2.out, fun j hj hjk => by
                rcases Nat.lt_succ_iff_lt_or_eq.1 hjk with h | rfl
                · exact hr.out j hj h
                · rw [← Hm.out]; exact ⟨hp1.out, hp2.out, hp3.out⟩⟩
              case measure => simp [intOf]; omega
      · obtain rfl : k = D.moves.length := by omega
        have hnk : ¬ ((D.moves.length : Int) < (D.moves.length : Int)) := by omega
        have hBf := Lib.hid (Hb0.out.trans (hb.mono Hb0.out.size))
        have Hok : Hid (∀ m ∈ D.moves, okM D.states m) := fun m hm => by
          obtain ⟨j, hj, rfl⟩ := List.getElem_of_mem hm
          exact hr.out j hj hj
        go_wp2_with fail
        refine (l1In_c _ _ _ _).mono ?_
        rintro e w' ⟨b1, rfl, rfl, h1⟩
        cases b1
        · exact (hbF h1 ⟨hs0, hs1⟩).elim
        · clear h1
          by_cases hml : D.moves.length ≤ 400
          · have hmI : (D.moves.length : Int) ≤ 400 := by omega
            go_wp2_with fail
            clear c0 c1 c2 c3
            refine (l8Set_c _ D.firsts D.states wr (Ints.stay H.out.2.1 (kpB hb)) (by omega)).mono ?_
            rintro e w2 ⟨b2, rfl, hb2, h2⟩
            have HB2 := Lib.hid (hb.trans (hb2.mono hb.size))
            have hBf2 := Lib.hid (Hb0.out.trans (HB2.out.mono Hb0.out.size))
            obtain ⟨c0, c1, c2, c3⟩ := blk4 (blkBel HB2.out K0.out)
            clear hb2
            cases b2
            · have hp := Lib.hid (hbF h2); clear h2
              go_wp2
              go_ret
              exact RBn.mk hBf2.out ⟨nofun, fun ho => (hp.out ho.2.2.1).elim⟩
            · have hp2 := Lib.hid (hbT h2); clear h2
              go_wp2_with fail
              clear c0 c1 c2 c3
              refine (l8Set_c _ D.ends D.states w2 (Ints.stay H.out.2.2 (kpB HB2.out)) (by omega)).mono ?_
              rintro e w3 ⟨b3, rfl, hb3, h3⟩
              have hBf3 := Lib.hid (hBf2.out.trans (hb3.mono hBf2.out.size))
              clear hb3
              cases b3
              · have hp := Lib.hid (hbF h3); clear h3
                go_wp2
                go_ret
                exact RBn.mk hBf3.out ⟨nofun, fun ho => (hp.out ho.2.2.2.1).elim⟩
              · have hp3 := Lib.hid (hbT h3); clear h3
                go_wp2
                go_ret
                exact RBn.mk hBf3.out ⟨fun _ => ⟨⟨hs0, hs1⟩, hml, hp2.out, hp3.out, Hok.out⟩, fun _ => rfl⟩
          · have hmI : ¬ ((D.moves.length : Int) ≤ 400) := by omega
            go_wp2
            go_ret
            exact RBn.mk hBf.out ⟨nofun, fun ho => by have := ho.2.1; omega⟩
  · have Hst : Hid (¬ okN D) := fun ho => hst ho.1
    have Hst2 := Lib.hid hst
    clear hst
    go_enter Try.func17, Try.ntmps17
    go_wp2_with fail
    clear c0 c1 c2 c3
    rw [← HW.out]
    clear HW
    go_loopw [3] (fun i wr => ∃ k : Nat, k ≤ D.moves.length ∧ i = .int .i64 k ∧ Below W.heap.size W wr) (fun i _ => D.moves.length - (intOf i).toNat)
    case atStart => exact ⟨0, by omega, rfl, Below.refl _ _⟩
    case round =>
      obtain ⟨k, hk, rfl, hb⟩ := hrel
      obtain ⟨c0, c1, c2, c3⟩ := blk4 (blkBel hb K0.out)
      have hwl : w.heap.size < wr.heap.size := World.block_lt_of_cell? _ _ c0
      by_cases hlt : k < D.moves.length
      · obtain ⟨b', off, rfl, h0, h1, h2⟩ := (Trips.stay H.out.1 (kpB hb)).at hlt
        have hkI : (k : Int) < (D.moves.length : Int) := by omega
        obtain ⟨m, hm'⟩ : ∃ m, m = D.moves[k] := ⟨_, rfl⟩
        rw [← hm'] at h0 h1 h2
        clear hm'
        obtain ⟨x, y, z⟩ := m
        dsimp only at h0 h1 h2
        obtain ⟨W2, hW2⟩ : ∃ W2, W2 = wr.alloc (.cells #[.int .i64 x, .int .i64 y, .int .i64 z] 40) := ⟨_, rfl⟩
        have hb2 : Below wr.heap.size wr W2 := by rw [hW2]; exact (Below.refl _ _).alloc (Nat.le_refl _) _
        have HB2 := Lib.hid (hb.trans (hb2.mono hb.size))
        have k3 : W2.heap[wr.heap.size]? = some (.cells #[.int .i64 x, .int .i64 y, .int .i64 z] 40 (0, 0)) := by rw [hW2]; exact blkNew _ _ rfl
        have K3 := Lib.hid k3
        have HW2 := Lib.hid hW2
        clear hW2 k3
        have hBf := Lib.hid (Hb0.out.trans (HB2.out.mono Hb0.out.size))
        go_wp2_with fail
        clear h0 h1 h2 c0 c1 c2 c3
        rw [← HW2.out]
        obtain ⟨c0, c1, c2, c3⟩ := blk4 (blkBel HB2.out K0.out)
        obtain ⟨d0, d1, d2⟩ := blk3 K3.out
        refine (l1In_c _ _ _ _).mono ?_
        rintro e w' ⟨b1, rfl, rfl, h1⟩
        clear h1
        cases b1
        · go_wp2
          go_ret
          exact RBn.mk hBf.out ⟨nofun, fun ho => (Hst.out ho).elim⟩
        · go_wp2_with fail
          refine (l1In_c _ _ _ _).mono ?_
          rintro e w' ⟨b2, rfl, rfl, h2⟩
          clear h2
          cases b2
          · go_wp2
            go_ret
            exact RBn.mk hBf.out ⟨nofun, fun ho => (Hst.out ho).elim⟩
          · go_wp2_with fail
            refine (l1In_c _ _ _ _).mono ?_
            rintro e w' ⟨b3, rfl, rfl, h3⟩
            clear h3
            cases b3
            · go_wp2
              go_ret
              exact RBn.mk hBf.out ⟨nofun, fun ho => (Hst.out ho).elim⟩
            · go_wp2
              go_roundw
              case rel => exact ⟨k + 1, by omega, by go_num, HB2.out⟩
              case measure => simp [intOf]; omega
      · obtain rfl : k = D.moves.length := by omega
        have hnk : ¬ ((D.moves.length : Int) < (D.moves.length : Int)) := by omega
        have hBf := Lib.hid (Hb0.out.trans (hb.mono Hb0.out.size))
        go_wp2_with fail
        refine (l1In_c _ _ _ _).mono ?_
        rintro e w' ⟨b1, rfl, rfl, h1⟩
        cases b1
        · clear h1
          go_wp2
          go_ret
          exact RBn.mk hBf.out ⟨nofun, fun ho => (Hst.out ho).elim⟩
        · exact (Hst2.out (hbT h1)).elim
end Go.Proofs.Ytbcjhiponbfbnaa
namespace Go.Proofs.Ytbcjhiponbfbnaa
open Go.RowKit
set_option maxRecDepth 100000
variable {S T : Nat → Prop}

theorem bneS (x : Int) : (x != x) = false := by simp
theorem beqS (x : Int) : (x == x) = true := by simp
set_option maxHeartbeats 400000 in
theorem eqIntS_c (v u : Value) (xs : List Int) (w : World) (hv : Ints S w v xs) (hu : Ints T w u xs) : Calls Try.prog 117 #[v, u] w (RBn w True) := by
  obtain ⟨a, ca, rfl, hn⟩ := hv.shape
  obtain ⟨b, cb, rfl, _⟩ := hu.shape
  have HV := Lib.hid hv; clear hv
  have HU := Lib.hid hu; clear hu
  have hne := bneS (xs.length : Int)
  go_enter Try.func117, Try.ntmps117
  go_wp2
  go_loopw [5] (fun i wr => ∃ k : Nat, k ≤ xs.length ∧ i = .int .i64 k ∧ ∃ q, wr = w.drewN q) (fun i _ => xs.length - (intOf i).toNat)
  case atStart => exact ⟨0, by omega, rfl, 0, rfl⟩
  case round =>
    obtain ⟨k, hk, rfl, q, rfl⟩ := hrel
    by_cases hlt : k < xs.length
    · obtain ⟨ba, oa, rfl, hca⟩ := HV.out.at hlt
      obtain ⟨bb, ob, rfl, hcb⟩ := HU.out.at hlt
      have hx := bneS xs[k]
      generalize xs[k] = x at *
      go_wp2_with fail
      go_quiet (fail)
      go_wp2
      go_roundw
      case rel => exact ⟨k + 1, by omega, by go_num, _, rfl⟩
      case measure => simp [intOf]; omega
    · go_wp2
      go_ret
      exact RBn.mk (belReflN _ _ _) (by simp)
theorem eqPart_c (x y : Int) (w : World) : Calls Try.prog 71 #[.agg #[.int .i64 x, .int .i64 y], .agg #[.int .i64 x, .int .i64 y]] w (RBn w True) := by
  have hx := bneS x
  have hy := bneS y
  go_enter Try.func71, Try.ntmps71
  go_wp2
  go_ret
  exact RBn.mk (((Below.refl _ _).alloc (Nat.le_refl _) _).alloc (by simp) _) (by simp)
set_option maxHeartbeats 400000 in
theorem eqPartS_c (v u : Value) (xs : List (Int × Int)) (w : World) (hv : Pairs S w v xs) (hu : Pairs T w u xs) : Calls Try.prog 29 #[v, u] w (RBn w True) := by
  obtain ⟨a, ca, rfl, hn⟩ := hv.shape
  obtain ⟨b, cb, rfl, _⟩ := hu.shape
  have HV := Lib.hid hv; clear hv
  have HU := Lib.hid hu; clear hu
  have hne := bneS (xs.length : Int)
  go_enter Try.func29, Try.ntmps29
  go_wp2
  go_loopw [5] (fun i wr => ∃ k : Nat, k ≤ xs.length ∧ i = .int .i64 k ∧ Below w.heap.size w wr) (fun i _ => xs.length - (intOf i).toNat)
  case atStart => exact ⟨0, by omega, rfl, Below.refl _ _⟩
  case round =>
    obtain ⟨k, hk, rfl, hb⟩ := hrel
    by_cases hlt : k < xs.length
    · obtain ⟨ba, oa, rfl, hca, hca'⟩ := (HV.out.stay (kpB hb)).at hlt
      obtain ⟨bb, ob, rfl, hcb, hcb'⟩ := (HU.out.stay (kpB hb)).at hlt
      generalize xs[k] = x at *
      obtain ⟨x, y⟩ := x
      go_wp2_with fail
      go_still_tail 8, (by kernel_rfl)
      change wpList _ _ _ _ _ wr.drew
      have hb2 : Below w.heap.size w wr.drew := hb.drew
      generalize wr.drew = w2 at *
      go_wp2_with fail
      refine (eqPart_c x y _).mono ?_
      rintro e w3 ⟨b, rfl, hb3, hp⟩
      cases b
      · exact (hbF hp trivial).elim
      clear hp
      go_wp2
      go_roundw
      case rel => exact ⟨k + 1, by omega, by go_num, hb2.trans (hb3.mono hb2.size)⟩
      case measure => simp [intOf]; omega
    · go_wp2
      go_ret
      exact RBn.mk hb (by simp)
end Go.Proofs.Ytbcjhiponbfbnaa
namespace Go.Proofs.Ytbcjhiponbfbnaa
open Go.RowKit
set_option maxRecDepth 100000
variable {S T : Nat → Prop}

set_option maxHeartbeats 400000 in
theorem markIntS_c (v : Value) (n : Nat) (cs : List Value) (k : Int) (w : World) (h : FlW S w v n cs) (hl : cs.length = n) (hk : 0 ≤ k ∧ k ≤ 4000000000000) (hn : n ≤ 1000000000000) :
    Calls Try.prog 118 #[v, .int .i64 k] w fun e w' => e = .returned (.int .i64 (k + n)) ∧ w.grownBy w' v.ownBlock ∧ Hid (FlW S w' v n ((List.range (n)).map fun t : Nat => .int .i64 (k + t))) := by
  obtain ⟨a, cap, rfl, _⟩ := h.shape
  have H := Lib.hid h; clear h
  have Hl := Lib.hid hl; clear hl
  obtain ⟨hk0, hk1⟩ := hk
  go_enter Try.func118, Try.ntmps118
  go_wp2
  go_loopw [1, 5] (fun x i wr => ∃ j : Nat, j ≤ n ∧ i = .int .i64 j ∧ x = .int .i64 (k + j) ∧ w.grownBy wr (Value.slice a n cap).ownBlock ∧ Hid (FlW S wr (.slice a n cap) n (mkd cs (fun t : Nat => .int .i64 (k + t)) (j)))) (fun _ i _ => n - (intOf i).toNat)
  case atStart => exact ⟨0, by omega, rfl, by simp, grownRefl _ _, by rw [mkd_zero]; exact H⟩
  case round =>
    obtain ⟨j, hj, rfl, rfl, hg, hr⟩ := hrel
    by_cases hlt : j < n
    · have hlen := mkd_length cs (fun t : Nat => .int .i64 (k + t)) (j) (by rw [Hl.out]; omega)
      obtain ⟨b, off, rfl, _, c0, f0⟩ := hr.out.at (i := j) (by rw [hlen, Hl.out]; omega)
      have hs0 := hr.out.set (j) (.int .i64 (k + j)) (by rw [hlen, Hl.out]; omega)
      have e0 := mkd_set cs (fun t : Nat => .int .i64 (k + t)) (j) (by rw [Hl.out]; omega)
      rw [e0] at hs0
      obtain ⟨u0, d0⟩ : ∃ u, wr.cell? ⟨b, off + j, none⟩ = some u := ⟨_, c0⟩
      have g0 := f0 (off + j)
      have Hs := Lib.hid hs0
      have hG : w.grownBy (wr.setCell ⟨b, off + j, none⟩ (.int .i64 (k + j))) (some b) := (grownTrans hg (grownSet _ _ _ _))
      clear c0 hs0 e0 hlen hr f0 hg H
      go_wp2
      go_roundw
      case rel => exact ⟨j + 1, by omega, by go_num, by rw [show k + (j : Int) + 1 = k + ((j + 1 : Nat) : Int) by omega], hG, Hs⟩
      case measure => simp [intOf]; omega
    · obtain rfl : j = n := by omega
      go_wp2
      go_ret
      refine ⟨rfl, hg, ?_⟩
      rw [← mkd_all cs _ _ Hl.out]
      exact hr
set_option maxHeartbeats 400000 in
theorem markPartS_c (v : Value) (n : Nat) (cs : List Value) (k : Int) (w : World) (h : FlW S w v n cs) (hl : cs.length = 2 * n) (hk : 0 ≤ k ∧ k ≤ 4000000000000) (hn : n ≤ 1000000000000) :
    Calls Try.prog 32 #[v, .int .i64 k] w fun e w' => e = .returned (.int .i64 (k + 2 * n)) ∧ w.grownBy w' v.ownBlock ∧ Hid (FlW S w' v n ((List.range (2 * n)).map fun t : Nat => .int .i64 (k + t))) := by
  obtain ⟨a, cap, rfl, _⟩ := h.shape
  have H := Lib.hid h; clear h
  have Hl := Lib.hid hl; clear hl
  obtain ⟨hk0, hk1⟩ := hk
  go_enter Try.func32, Try.ntmps32
  go_wp2
  go_loopw [1, 5] (fun x i wr => ∃ j : Nat, j ≤ n ∧ i = .int .i64 j ∧ x = .int .i64 (k + 2 * j) ∧ w.grownBy wr (Value.slice a n cap).ownBlock ∧ Hid (FlW S wr (.slice a n cap) n (mkd cs (fun t : Nat => .int .i64 (k + t)) (2 * j)))) (fun _ i _ => n - (intOf i).toNat)
  case atStart => exact ⟨0, by omega, rfl, by simp, grownRefl _ _, by rw [mkd_zero]; exact H⟩
  case round =>
    obtain ⟨j, hj, rfl, rfl, hg, hr⟩ := hrel
    by_cases hlt : j < n
    · have hlen := mkd_length cs (fun t : Nat => .int .i64 (k + t)) (2 * j) (by rw [Hl.out]; omega)
      obtain ⟨b, off, rfl, _, c0, f0⟩ := hr.out.at (i := j * 2) (by rw [hlen, Hl.out]; omega)
      obtain ⟨b', off', e, _, c1, _⟩ := hr.out.at (i := j * 2 + 1) (by rw [hlen, Hl.out]; omega)
      cases e
      have hs0 := hr.out.set (2 * j) (.int .i64 (k + 2 * j)) (by rw [hlen, Hl.out]; omega)
      have e0 := mkd_set cs (fun t : Nat => .int .i64 (k + t)) (2 * j) (by rw [Hl.out]; omega)
      rw [show k + ((2 * j : Nat) : Int) = k + 2 * (j : Int) by omega] at e0
      rw [e0] at hs0
      have hlen1 := mkd_length cs (fun t : Nat => .int .i64 (k + t)) (2 * j + 1) (by rw [Hl.out]; omega)
      have hs1 := hs0.set (2 * j + 1) (.int .i64 (k + 2 * j + 1)) (by rw [hlen1, Hl.out]; omega)
      have e1 := mkd_set cs (fun t : Nat => .int .i64 (k + t)) (2 * j + 1) (by rw [Hl.out]; omega)
      rw [show k + ((2 * j + 1 : Nat) : Int) = k + 2 * (j : Int) + 1 by omega] at e1
      rw [e1] at hs1
      obtain ⟨u0, d0⟩ : ∃ u, wr.cell? ⟨b, off + j * 2, none⟩ = some u := ⟨_, c0⟩
      have g0 := f0 (off + j * 2)
      obtain ⟨u1, d1⟩ : ∃ u, wr.cell? ⟨b, off + j * 2 + 1, none⟩ = some u := ⟨_, c1⟩
      have g1 := f0 (off + j * 2 + 1)
      have Hs := Lib.hid hs1
      rw [show off + 2 * j = off + j * 2 by omega, show off + (2 * j + 1) = off + j * 2 + 1 by omega] at Hs
      have hG : w.grownBy ((wr.setCell ⟨b, off + j * 2, none⟩ (.int .i64 (k + 2 * j))).setCell ⟨b, off + j * 2 + 1, none⟩ (.int .i64 (k + 2 * j + 1))) (some b) := (grownTrans (grownTrans hg (grownSet _ _ _ _)) (grownSet _ _ _ _))
      clear c0 hs0 e0 c1 hs1 e1 hlen1 hlen hr f0 hg H
      go_wp2
      go_roundw
      case rel => exact ⟨j + 1, by omega, by go_num, by rw [show k + 2 * (j : Int) + 1 + 1 = k + 2 * ((j + 1 : Nat) : Int) by omega], hG, Hs⟩
      case measure => simp [intOf]; omega
    · obtain rfl : j = n := by omega
      go_wp2
      go_ret
      refine ⟨rfl, hg, ?_⟩
      rw [← mkd_all cs _ _ Hl.out]
      exact hr
set_option maxHeartbeats 400000 in
theorem heldPartS_c (v : Value) (n : Nat) (k : Int) (w : World) (h : Fl S w v n ((List.range (2 * n)).map fun t : Nat => .int .i64 (k + t))) (hk : 0 ≤ k ∧ k ≤ 4000000000000) (hn : n ≤ 1000000000000) :
    Calls Try.prog 33 #[v, .int .i64 k] w fun e w' => e = .returned (.int .i64 (k + 2 * n)) ∧ w = w' := by
  obtain ⟨a, cap, rfl, _⟩ := h.shape
  have H := Lib.hid h; clear h
  obtain ⟨hk0, hk1⟩ := hk
  go_enter Try.func33, Try.ntmps33
  go_wp2
  go_loop [1, 5] (fun x i => ∃ j : Nat, j ≤ n ∧ i = .int .i64 j ∧ x = .int .i64 (k + 2 * j)) (fun _ i => n - (intOf i).toNat)
  case atStart => exact ⟨0, by omega, rfl, by simp⟩
  case round =>
    obtain ⟨j, hj, rfl, rfl⟩ := hrel
    by_cases hlt : j < n
    · obtain ⟨b, off, rfl, c0⟩ := H.out.at (i := j * 2) (by simp; omega)
      obtain ⟨b', off', e, c1⟩ := H.out.at (i := j * 2 + 1) (by simp; omega)
      cases e
      have d0 : w.cell? ⟨b, off + j * 2, none⟩ = some (.int .i64 (k + 2 * j)) := by rw [show off + j * 2 = off + (j * 2) by omega, c0, List.getElem_map, List.getElem_range] <;> (congr 2; omega)
      have n0 := bneS (k + 2 * (j : Int))
      have d1 : w.cell? ⟨b, off + j * 2 + 1, none⟩ = some (.int .i64 (k + 2 * j + 1)) := by rw [show off + j * 2 + 1 = off + (j * 2 + 1) by omega, c1, List.getElem_map, List.getElem_range] <;> (congr 2; omega)
      have n1 := bneS (k + 2 * (j : Int) + 1)
      clear c0 c1
      go_wp2
      go_round
      case rel => exact ⟨j + 1, by omega, by go_num, by rw [show k + 2 * (j : Int) + 1 + 1 = k + 2 * ((j + 1 : Nat) : Int) by omega]⟩
      case measure => simp [intOf]; omega
    · obtain rfl : j = n := by omega
      go_wp2
      go_ret
      exact ⟨rfl, rfl⟩
end Go.Proofs.Ytbcjhiponbfbnaa
namespace Go.Proofs.Ytbcjhiponbfbnaa
open Go.RowKit
set_option maxRecDepth 100000
variable {S T : Nat → Prop}

/-- What a size function answers: -1, or what is left, and then p holds. -/
def Sz (w : World) (left : Int) (p : Prop) (e : Ending) (w' : World) : Prop := ∃ m : Int, e = .returned (.int .i64 m) ∧ Below w.heap.size w w' ∧ Hid (m = -1 ∨ (0 ≤ m ∧ m ≤ left ∧ p))
theorem Sz.no {w w' : World} {left : Int} {p : Prop} (h : Below w.heap.size w w') : Sz w left p (.returned (.int .i64 (-1))) w' := ⟨-1, rfl, h, .inl rfl⟩
theorem Sz.yes {w w' : World} {left m : Int} {p : Prop} (h : Below w.heap.size w w') (h0 : 0 ≤ m) (h1 : m ≤ left) (hp : p) : Sz w left p (.returned (.int .i64 m)) w' := ⟨m, rfl, h, .inr ⟨h0, h1, hp⟩⟩

def smallSS (xss : List (List Int)) : Prop := xss.length ≤ 1048576 ∧ ∀ r ∈ xss, r.length ≤ 1048576
def smallD (D : DfaD) : Prop := smallSS D.1 ∧ D.2.length ≤ 1048576
theorem szIntS_c (v : Value) (xs : List Int) (left : Int) (w : World) (h : Ints S w v xs) (h0 : 0 ≤ left) (h1 : left ≤ 1048576) :
    Calls Try.prog 102 #[v, .int .i64 left] w (Sz w left (xs.length ≤ 1048576)) := by
  obtain ⟨a, cap, rfl, hn⟩ := h.shape
  clear h
  by_cases hl : (xs.length : Int) ≤ left
  · go_enter Try.func102, Try.ntmps102
    go_wp2
    go_ret
    exact Sz.yes (Below.refl _ _) (by omega) (by omega) (by omega)
  · go_enter Try.func102, Try.ntmps102
    go_wp2
    go_ret
    exact Sz.no (Below.refl _ _)
theorem szBoolS_c (v : Value) (xs : List Bool) (left : Int) (w : World) (h : Bools S w v xs) (h0 : 0 ≤ left) (h1 : left ≤ 1048576) :
    Calls Try.prog 62 #[v, .int .i64 left] w (Sz w left (xs.length ≤ 1048576)) := by
  obtain ⟨a, cap, rfl, hn⟩ := h.shape
  clear h
  by_cases hl : (xs.length : Int) ≤ left
  · go_enter Try.func62, Try.ntmps62
    go_wp2
    go_ret
    exact Sz.yes (Below.refl _ _) (by omega) (by omega) (by omega)
  · go_enter Try.func62, Try.ntmps62
    go_wp2
    go_ret
    exact Sz.no (Below.refl _ _)
set_option maxHeartbeats 400000 in
theorem szIntSS_c (v : Value) (xss : List (List Int)) (left : Int) (w : World) (h : IntSS S w v xss) (h0 : 0 ≤ left) (h1 : left ≤ 1048576) :
    Calls Try.prog 61 #[v, .int .i64 left] w (Sz w left (smallSS xss)) := by
  obtain ⟨a, cap, rfl, hn⟩ := h.shape
  have H := Lib.hid h; clear h
  by_cases hl : (xss.length : Int) ≤ left
  · go_enter Try.func61, Try.ntmps61
    go_wp2
    go_loopw [1, 5] (fun x i wr => ∃ (k : Nat) (l : Int), k ≤ xss.length ∧ i = .int .i64 k ∧ x = .int .i64 l ∧ 0 ≤ l ∧ l ≤ left ∧ Below w.heap.size w wr ∧ Hid (∀ j (hj : j < xss.length), j < k → xss[j].length ≤ 1048576)) (fun _ i _ => xss.length - (intOf i).toNat)
    case atStart => exact ⟨0, _, by omega, rfl, rfl, by omega, by omega, Below.refl _ _, fun j _ hj => absurd hj (Nat.not_lt_zero _)⟩
    case round =>
      obtain ⟨k, l, hk, rfl, rfl, hl0, hl1, hb, hr⟩ := hrel
      by_cases hlt : k < xss.length
      · obtain ⟨b, off, u, rfl, hc, hu⟩ := (H.out.stay (kpB hb)).at hlt
        have HU := Lib.hid hu; clear hu
        go_wp2_with fail
        refine (szIntS_c u _ l wr HU.out hl0 (by omega)).mono ?_
        rintro e w1 ⟨m, rfl, hb1, hm⟩
        rcases hm.out with rfl | ⟨hm0, hm1, hm2⟩
        · clear hm
          go_wp2
          go_ret
          exact Sz.no (hb.trans (hb1.mono hb.size))
        · have Hm2 := Lib.hid hm2
          clear hm hm2
          go_wp2
          go_roundw
          case rel => exact ⟨k + 1, m, by omega, by go_num, rfl, by omega, by omega, hb.trans (hb1.mono hb.size), fun j hj hjk => by
            rcases Nat.lt_succ_iff_lt_or_eq.1 hjk with h | rfl
            · exact hr.out j hj h
            · exact Hm2.out⟩
          case measure => simp [intOf]; omega
      · go_wp2
        go_ret
        exact Sz.yes hb hl0 hl1 ⟨by omega, fun r hr' => by
          obtain ⟨j, hj, rfl⟩ := List.getElem_of_mem hr'
          exact hr.out j hj (by omega)⟩
  · go_enter Try.func61, Try.ntmps61
    go_wp2
    go_ret
    exact Sz.no (Below.refl _ _)
set_option maxHeartbeats 400000 in
theorem szDfa_c (vn ve : Value) (D : DfaD) (left : Int) (w : World) (h : DfaR S w vn ve D) (h0 : 0 ≤ left) (h1 : left ≤ 1048576) :
    Calls Try.prog 25 #[.agg #[vn, ve], .int .i64 left] w (Sz w left (smallD D)) := by
  have H := Lib.hid h; clear h
  have hb0 : Below w.heap.size w (w.alloc (.cells #[vn, ve] 49)) := (Below.refl _ _).alloc (Nat.le_refl _) _
  go_enter Try.func25, Try.ntmps25
  go_wp2_with fail
  refine (szIntSS_c vn _ left _ (H.out.1.stay (kpB hb0)) h0 h1).mono ?_
  rintro e w1 ⟨m, rfl, hb1, hm⟩
  have hb2 := hb0.trans (hb1.mono hb0.size)
  have hcell : w1.cell? ⟨w.heap.size, 1, none⟩ = some ve := by
    rw [hb1.cell (p := ⟨w.heap.size, 1, none⟩) (by simp), World.cell?_alloc_mark]; rfl
  clear hb0 hb1
  rcases hm.out with rfl | ⟨hm0, hm1, hm2⟩
  · clear hm
    go_wp2
    go_ret
    exact Sz.no hb2
  · have Hm2 := Lib.hid hm2
    clear hm hm2
    go_wp2_with fail
    refine (szBoolS_c ve _ m _ (H.out.2.stay (kpB hb2)) hm0 (by omega)).mono ?_
    rintro e w2 ⟨m2, rfl, hb3, hk⟩
    have hb4 := hb2.trans (hb3.mono hb2.size)
    clear hcell
    rcases hk.out with rfl | ⟨hk0, hk1, hk2⟩
    · clear hk
      go_wp2
      go_ret
      exact Sz.no hb4
    · clear hk
      go_wp2
      go_ret
      exact Sz.yes hb4 hk0 (by omega) ⟨Hm2.out, hk2⟩
set_option maxHeartbeats 400000 in
theorem toIntS_c (v : Value) (xs : List Int) (w : World) (h : Ints S w v xs) (hn : xs.length ≤ 1048576) :
    Calls Try.prog 106 #[v] w (RVn w fun v w' => Made w.heap.size w' v xs.length (xs.map (.int .i64 ·))) := by
  obtain ⟨a, cap, rfl, _⟩ := h.shape
  have H := Lib.hid h; clear h
  go_enter Try.func106, Try.ntmps106
  go_wp2_with (at_make; refine makeFull elInt (by decide) rfl (.tmp 6) (.tmp 6) rfl xs.length w rfl rfl (by omega) ?_; intro w1 cs ho hcl hb hlt _)
  have hF := Lib.hid (ownAt ho.out)
  clear ho
  go_loopw [4] (fun i wr => ∃ k : Nat, k ≤ xs.length ∧ i = .int .i64 k ∧ Below w.heap.size w wr ∧ w.heap.size < wr.heap.size ∧ Hid (FlW (· = w.heap.size) wr (.slice (some ⟨w.heap.size, 0, none⟩) xs.length xs.length) xs.length (mkd cs (fun t => .int .i64 (xs.getD t 0)) k))) (fun i _ => xs.length - (intOf i).toNat)
  case atStart => exact ⟨0, by omega, rfl, hb, hlt, by rw [mkd_zero]; exact hF⟩
  case round =>
    obtain ⟨k, hk, rfl, hb, hlt0, hr⟩ := hrel
    clear hF
    by_cases hlt : k < xs.length
    · obtain ⟨b, off, rfl, hca⟩ := (H.out.stay (kpB hb)).at hlt
      have hlen := mkd_length cs (fun t => .int .i64 (xs.getD t 0)) k (by rw [hcl.out]; omega)
      obtain ⟨b', off', e, _, c0, f0⟩ := hr.out.at (i := k) (by rw [hlen, hcl.out]; omega)
      cases e
      have hs := hr.out.set k (.int .i64 (xs.getD k 0)) (by rw [hlen, hcl.out]; omega)
      rw [mkd_set cs (fun t => .int .i64 (xs.getD t 0)) k (by rw [hcl.out]; omega)] at hs
      have Hs := Lib.hid hs; clear hs
      have hxk : xs[k] = xs.getD k 0 := by rw [List.getD_eq_getElem?_getD, List.getElem?_eq_getElem hlt]; rfl
      rw [hxk] at hca
      clear hxk
      obtain ⟨u0, d0⟩ : ∃ u, wr.cell? ⟨w.heap.size, 0 + k, none⟩ = some u := ⟨_, c0⟩
      have g0 := f0 (0 + k)
      rw [Nat.zero_add] at d0 g0 Hs
      have hB : Below w.heap.size w (wr.setCell ⟨w.heap.size, k, none⟩ (.int .i64 (xs.getD k 0))) := hb.setCell (Nat.le_refl _) _
      clear hlen c0 f0 hr hb
      generalize xs.getD k 0 = x at *
      go_wp2
      go_roundw
      case rel => exact ⟨k + 1, by omega, by go_num, hB, by simpa [World.setCell] using hlt0, Hs⟩
      case measure => simp [intOf]; omega
    · obtain rfl : k = xs.length := by omega
      have he : (List.range xs.length).map (fun t => Value.int .i64 (xs.getD t 0)) = xs.map (.int .i64 ·) := by
        apply List.ext_getElem
        · simp
        · intro i h1 h2
          simp at h1
          simp [h1]
      have H2 : Hid (FlW (· = w.heap.size) wr (.slice (some ⟨w.heap.size, 0, none⟩) xs.length xs.length) xs.length (xs.map (.int .i64 ·))) := by
        rw [← he, ← mkd_all cs _ _ (by rw [hcl.out, Nat.mul_one])]; exact hr
      clear he hr
      go_wp2
      go_ret
      exact RVn.mk hb ⟨w.heap.size, Nat.le_refl _, hlt0, H2.out⟩
set_option maxHeartbeats 400000 in
theorem toBoolS_c (v : Value) (xs : List Bool) (w : World) (h : Bools S w v xs) (hn : xs.length ≤ 1048576) :
    Calls Try.prog 67 #[v] w (RVn w fun v w' => Made w.heap.size w' v xs.length (xs.map (.bool ·))) := by
  obtain ⟨a, cap, rfl, _⟩ := h.shape
  have H := Lib.hid h; clear h
  go_enter Try.func67, Try.ntmps67
  go_wp2_with (at_make; refine makeFull elBool (by decide) rfl (.tmp 6) (.tmp 6) rfl xs.length w rfl rfl (by omega) ?_; intro w1 cs ho hcl hb hlt _)
  have hF := Lib.hid (ownAt ho.out)
  clear ho
  go_loopw [4] (fun i wr => ∃ k : Nat, k ≤ xs.length ∧ i = .int .i64 k ∧ Below w.heap.size w wr ∧ w.heap.size < wr.heap.size ∧ Hid (FlW (· = w.heap.size) wr (.slice (some ⟨w.heap.size, 0, none⟩) xs.length xs.length) xs.length (mkd cs (fun t => .bool (xs.getD t false)) k))) (fun i _ => xs.length - (intOf i).toNat)
  case atStart => exact ⟨0, by omega, rfl, hb, hlt, by rw [mkd_zero]; exact hF⟩
  case round =>
    obtain ⟨k, hk, rfl, hb, hlt0, hr⟩ := hrel
    clear hF
    by_cases hlt : k < xs.length
    · obtain ⟨b, off, rfl, hca⟩ := (H.out.stay (kpB hb)).at hlt
      have hlen := mkd_length cs (fun t => .bool (xs.getD t false)) k (by rw [hcl.out]; omega)
      obtain ⟨b', off', e, _, c0, f0⟩ := hr.out.at (i := k) (by rw [hlen, hcl.out]; omega)
      cases e
      have hs := hr.out.set k (.bool (xs.getD k false)) (by rw [hlen, hcl.out]; omega)
      rw [mkd_set cs (fun t => .bool (xs.getD t false)) k (by rw [hcl.out]; omega)] at hs
      have Hs := Lib.hid hs; clear hs
      have hxk : xs[k] = xs.getD k false := by rw [List.getD_eq_getElem?_getD, List.getElem?_eq_getElem hlt]; rfl
      rw [hxk] at hca
      clear hxk
      obtain ⟨u0, d0⟩ : ∃ u, wr.cell? ⟨w.heap.size, 0 + k, none⟩ = some u := ⟨_, c0⟩
      have g0 := f0 (0 + k)
      rw [Nat.zero_add] at d0 g0 Hs
      have hB : Below w.heap.size w (wr.setCell ⟨w.heap.size, k, none⟩ (.bool (xs.getD k false))) := hb.setCell (Nat.le_refl _) _
      clear hlen c0 f0 hr hb
      generalize xs.getD k false = x at *
      go_wp2
      go_roundw
      case rel => exact ⟨k + 1, by omega, by go_num, hB, by simpa [World.setCell] using hlt0, Hs⟩
      case measure => simp [intOf]; omega
    · obtain rfl : k = xs.length := by omega
      have he : (List.range xs.length).map (fun t => Value.bool (xs.getD t false)) = xs.map (.bool ·) := by
        apply List.ext_getElem
        · simp
        · intro i h1 h2
          simp at h1
          simp [h1]
      have H2 : Hid (FlW (· = w.heap.size) wr (.slice (some ⟨w.heap.size, 0, none⟩) xs.length xs.length) xs.length (xs.map (.bool ·))) := by
        rw [← he, ← mkd_all cs _ _ (by rw [hcl.out, Nat.mul_one])]; exact hr
      clear he hr
      go_wp2
      go_ret
      exact RVn.mk hb ⟨w.heap.size, Nat.le_refl _, hlt0, H2.out⟩
set_option maxHeartbeats 800000 in
theorem toIntSS_c (v : Value) (xss : List (List Int)) (w : World) (h : IntSS S w v xss) (hn : smallSS xss) :
    Calls Try.prog 66 #[v] w (RVn w fun v w' => IntSSW (fun b => w.heap.size ≤ b ∧ b < w'.heap.size) w' v xss) := by
  obtain ⟨a, cap, rfl, _⟩ := h.shape
  have H := Lib.hid h; clear h
  have hn1 := hn.1
  have hn2 := Lib.hid hn.2
  clear hn
  go_enter Try.func66, Try.ntmps66
  go_wp2_with (at_make; refine makeFull elInts (by decide) rfl (.tmp 6) (.tmp 6) rfl xss.length w rfl rfl (by omega) ?_; intro w1 cs ho hcl hb hlt _)
  have hF := Lib.hid (ownAt ho.out)
  clear ho
  go_loopw [4] (fun i wr => ∃ k : Nat, k ≤ xss.length ∧ i = .int .i64 k ∧ Below w.heap.size w wr ∧ w.heap.size < wr.heap.size ∧ Hid (∃ (g : Nat → Nat) (vs : Nat → Value), FlW (· = w.heap.size) wr (.slice (some ⟨w.heap.size, 0, none⟩) xss.length xss.length) xss.length (mkd cs vs k) ∧
      (∀ i (h : i < xss.length), i < k → (w.heap.size < g i ∧ g i < wr.heap.size) ∧ FlW (· = g i) wr (vs i) (xss[i]).length ((xss[i]).map (.int .i64 ·))) ∧ ∀ i j, i < j → j < k → g i < g j)) (fun i _ => xss.length - (intOf i).toNat)
  case atStart => exact ⟨0, by omega, rfl, hb, hlt, fun _ => 0, fun _ => undef, by rw [mkd_zero]; exact hF, fun i _ h => absurd h (Nat.not_lt_zero _), fun i j _ h => absurd h (Nat.not_lt_zero _)⟩
  case round =>
    obtain ⟨k, hk, rfl, hb, hlt0, hr⟩ := hrel
    clear hF
    by_cases hlt : k < xss.length
    · obtain ⟨b, off, u, rfl, hca, hu⟩ := (H.out.stay (kpB hb)).at hlt
      have HU := Lib.hid hu; clear hu
      have hlk := hn2.out _ (List.getElem_mem hlt)
      go_wp2_with fail
      refine (toIntS_c u _ _ HU.out hlk).mono ?_
      rintro e w2 ⟨v2, rfl, hb2, hm2⟩
      obtain ⟨a2, cap2, rfl, _⟩ := hm2.out.fl.shape
      have hbw2 := hb.trans (hb2.mono hb.size)
      have hlt2 := Nat.lt_of_lt_of_le hlt0 hb2.size
      obtain ⟨g, vs, q1, q2, q3⟩ := hr.out
      obtain ⟨gn, m1, m2, m3⟩ := hm2.out
      have q1' := q1.stay (ksB hb2)
      have hlen := mkd_length cs vs k (by rw [hcl.out]; omega)
      obtain ⟨b', off', e, _, c0, f0⟩ := q1'.at (i := k) (by rw [hlen, hcl.out]; omega)
      cases e
      have hs := q1'.set k (.slice a2 (xss[k]).length cap2) (by rw [hlen, hcl.out]; omega)
      have hvs : mkd cs (fun i => if i = k then .slice a2 (xss[k]).length cap2 else vs i) k = mkd cs vs k := by
        unfold mkd
        congr 1
        apply List.map_congr_left
        intro i hi
        rw [if_neg (by have := List.mem_range.1 hi; omega)]
      have q0 := mkd_set cs (fun i => if i = k then .slice a2 (xss[k]).length cap2 else vs i) k (by rw [hcl.out]; omega)
      rw [hvs] at q0
      simp only [if_true] at q0
      rw [q0] at hs
      obtain ⟨u0, d0⟩ : ∃ u, w2.cell? ⟨w.heap.size, 0 + k, none⟩ = some u := ⟨_, c0⟩
      have g0 := f0 k
      rw [Nat.zero_add] at d0 hs
      have hgo : ∀ b, w.heap.size < b → Ks (· = b) w2 (w2.setCell ⟨w.heap.size, k, none⟩ (.slice a2 (xss[k]).length cap2)) := fun b hb b' e _ => by
        subst e; exact Below.heap_setCell _ _ _ _ (by show b' ≠ w.heap.size; omega)
      have hsz : (w2.setCell ⟨w.heap.size, k, none⟩ (.slice a2 (xss[k]).length cap2)).heap.size = w2.heap.size := by simp [World.setCell]
      have HR : Hid (∃ (g : Nat → Nat) (vs : Nat → Value), FlW (· = w.heap.size) (w2.setCell ⟨w.heap.size, k, none⟩ (.slice a2 (xss[k]).length cap2)) (.slice (some ⟨w.heap.size, 0, none⟩) xss.length xss.length) xss.length (mkd cs vs (k + 1)) ∧
          (∀ i (h : i < xss.length), i < k + 1 → (w.heap.size < g i ∧ g i < (w2.setCell ⟨w.heap.size, k, none⟩ (.slice a2 (xss[k]).length cap2)).heap.size) ∧ FlW (· = g i) (w2.setCell ⟨w.heap.size, k, none⟩ (.slice a2 (xss[k]).length cap2)) (vs i) (xss[i]).length ((xss[i]).map (.int .i64 ·))) ∧ ∀ i j, i < j → j < k + 1 → g i < g j) := by
        refine ⟨fun i => if i = k then gn else g i, fun i => if i = k then .slice a2 (xss[k]).length cap2 else vs i, hs, ?_, ?_⟩
        · intro i hi hik
          by_cases e : i = k
          · subst e
            simp only [if_true, hsz]
            exact ⟨⟨by omega, m2⟩, m3.stay (hgo gn (by omega))⟩
          · simp only [if_neg e, hsz]
            obtain ⟨⟨r1, r2⟩, r3⟩ := q2 i hi (by omega)
            exact ⟨⟨r1, Nat.lt_of_lt_of_le r2 hb2.size⟩, (r3.stay (ksB hb2)).stay (hgo (g i) r1)⟩
        · intro i j hij hjk
          by_cases e : j = k
          · subst e
            simp only [if_true, if_neg (show i ≠ j by omega)]
            have := (q2 i (by omega) (by omega)).1.2
            omega
          · simp only [if_neg e, if_neg (show i ≠ k by omega)]
            exact q3 i j hij (by omega)
      have hB : Below w.heap.size w (w2.setCell ⟨w.heap.size, k, none⟩ (.slice a2 (xss[k]).length cap2)) := hbw2.setCell (Nat.le_refl _) _
      clear hsz hgo hs q0 hvs c0 f0 q1 q1' q2 q3 m1 m2 m3 hr hlen hm2 hb hb2 hbw2
      generalize (xss[k]).length = L at *
      go_wp2
      go_roundw
      case rel => exact ⟨k + 1, by omega, by go_num, hB, by simpa [World.setCell] using hlt2, HR⟩
      case measure => simp [intOf]; omega
    · obtain rfl : k = xss.length := by omega
      obtain ⟨g, vs, q1, q2, q3⟩ := hr.out
      rw [mkd_all cs _ _ (by rw [hcl.out, Nat.mul_one])] at q1
      have HQ : Hid (IntSSW (fun b => w.heap.size ≤ b ∧ b < wr.heap.size) wr (.slice (some ⟨w.heap.size, 0, none⟩) xss.length xss.length) xss) :=
        ⟨w.heap.size, g, vs, ⟨Nat.le_refl _, hlt0⟩, q1, fun i hi => ⟨⟨Nat.le_of_lt (q2 i hi hi).1.1, (q2 i hi hi).1.2⟩, by have := (q2 i hi hi).1.1; omega, (q2 i hi hi).2⟩, fun i j h1 h2 => by have := q3 i j h1 h2; omega⟩
      clear q1 q2 q3 hr
      go_wp2
      go_ret
      exact RVn.mk hb HQ.out
set_option maxHeartbeats 400000 in
theorem toDfa_c (vn ve : Value) (D : DfaD) (w : World) (h : DfaR S w vn ve D) (hn : smallD D) :
    Calls Try.prog 27 #[.agg #[vn, ve]] w fun e w' => ∃ v1 v2, e = .returned (.agg #[v1, v2]) ∧ Below w.heap.size w w' ∧ Hid (DfaW (fun b => w.heap.size ≤ b ∧ b < w'.heap.size) w' v1 v2 D) := by
  have H := Lib.hid h; clear h
  have HN := Lib.hid hn; clear hn
  have hB3 : Below w.heap.size w (((w.alloc (.cells #[vn, ve] 49)).alloc (.cells #[.slice none 0 0, .slice none 0 0] 52)).alloc (.cells #[.slice none 0 0, .slice none 0 0] 52)) :=
    (((Below.refl _ _).alloc (Nat.le_refl _) _).alloc (by simp) _).alloc (by simp; omega) _
  go_enter Try.func27, Try.ntmps27
  go_wp2_with fail
  refine (toIntSS_c vn _ _ (H.out.1.stay (kpB hB3)) HN.out.1).mono ?_
  rintro e w4 ⟨v1, rfl, hb4, hm4⟩
  obtain ⟨a1, cap1, rfl, _⟩ := hm4.out.rd.shape
  have hB4 := hB3.trans (hb4.mono hB3.size)
  have k0 := blkBel hb4 (blkOld (blkOld (blkNew w (.cells #[vn, ve] 49) rfl)))
  have k1 := blkBel hb4 (blkOld (blkNew (w.alloc (.cells #[vn, ve] 49)) (.cells #[.slice none 0 0, .slice none 0 0] 52) (b := w.heap.size + 1) (by simp)))
  have k2 := blkBel hb4 (blkNew ((w.alloc (.cells #[vn, ve] 49)).alloc (.cells #[.slice none 0 0, .slice none 0 0] 52)) (.cells #[.slice none 0 0, .slice none 0 0] 52) (b := w.heap.size + 1 + 1) (by simp))
  generalize hL : D.1.length = L at *
  have HL := Lib.hid hL; clear hL hb4 hB3
  have hB5 : Below w.heap.size w (w4.setCell ⟨w.heap.size + 1 + 1, 0, none⟩ (.slice a1 L cap1)) := hB4.setCell (by show w.heap.size ≤ w.heap.size + 1 + 1; omega) _
  have m1 := Lib.hid (blkSet (o := 0) (v := .slice a1 L cap1) k1 (show w.heap.size + 1 ≠ w.heap.size + 1 + 1 by omega))
  have m2 := Lib.hid (heap_set k2 0 (.slice a1 L cap1))
  have hz : w.heap.size + 1 + 1 < w4.heap.size := (Array.getElem?_eq_some_iff.1 k2).1
  obtain ⟨_, c01, _, _⟩ := blk2 k0
  obtain ⟨c20, _, f20, _⟩ := blk2 k2
  clear k0 k1 k2
  go_wp2_with fail
  refine (toBoolS_c ve _ _ (H.out.2.stay (kpB hB5)) HN.out.2).mono ?_
  rintro e w6 ⟨v2, rfl, hb6, hm6⟩
  obtain ⟨a2, cap2, rfl, _⟩ := hm6.out.fl.shape
  have hB6 := hB5.trans (hb6.mono hB5.size)
  generalize hL2 : D.2.length = L2 at *
  have HL2 := Lib.hid hL2; clear hL2
  obtain ⟨d10, d11, g10, g11⟩ := blk2 (blkBel hb6 m1.out)
  obtain ⟨d20, d21, g20, g21⟩ := blk2 (blkBel hb6 m2.out)
  have hm4' := Lib.hid (hm4.out.stay (w' := w6) (fun b hb hl => by
    have h1 : b < (w4.setCell ⟨w.heap.size + 1 + 1, 0, none⟩ (.slice a1 L cap1)).heap.size := by simp [World.setCell]; exact hl
    rw [hb6.block b h1]
    exact Below.heap_setCell _ _ _ _ (by show b ≠ w.heap.size + 1 + 1; have := hb.1; simp at this; omega)))
  have hsz := hb6.size
  clear hb6 hB5 hB4 c01 c20 f20 m1 m2 hm4
  go_wp2
  refine bodyPost_ret (v := .agg #[.slice a1 L cap1, .slice a2 L2 cap2]) (by simp [results, Try.results27, go_sem, d10, d11, g10, g11]) rfl ⟨_, _, rfl, ?_, ?_⟩
  · exact ((hB6.setCell (by show w.heap.size ≤ w.heap.size + 1 + 1; omega) _).setCell (by show w.heap.size ≤ w.heap.size + 1; omega) _).setCell (by show w.heap.size ≤ w.heap.size + 1; omega) _
  · have hK : ∀ T : Nat → Prop, (∀ b, T b → w.heap.size + 1 + 1 < b) → Ks T w6 (((w6.setCell ⟨w.heap.size + 1 + 1, 1, none⟩ (.slice a2 L2 cap2)).setCell ⟨w.heap.size + 1, 0, none⟩ (.slice a1 L cap1)).setCell ⟨w.heap.size + 1, 1, none⟩ (.slice a2 L2 cap2)) := by
      intro T hT b hb _
      have := hT b hb
      rw [Below.heap_setCell _ _ _ _ (by show b ≠ w.heap.size + 1; omega), Below.heap_setCell _ _ _ _ (by show b ≠ w.heap.size + 1; omega), Below.heap_setCell _ _ _ _ (by show b ≠ w.heap.size + 1 + 1; omega)]
    obtain ⟨q, q1, q2, q3⟩ := hm6.out
    have hsz4 : (w4.setCell ⟨w.heap.size + 1 + 1, 0, none⟩ (.slice a1 L cap1)).heap.size = w4.heap.size := by simp [World.setCell]
    rw [hsz4] at q1 hsz
    have hszE : (((w6.setCell ⟨w.heap.size + 1 + 1, 1, none⟩ (.slice a2 L2 cap2)).setCell ⟨w.heap.size + 1, 0, none⟩ (.slice a1 L cap1)).setCell ⟨w.heap.size + 1, 1, none⟩ (.slice a2 L2 cap2)).heap.size = w6.heap.size := by simp [World.setCell]
    refine ⟨q, ⟨by omega, by rw [hszE]; exact q2⟩, ?_, ?_⟩
    · refine (hm4'.out.stay (hK _ (fun b hb => by have := hb.1; simp at this; omega))).mono (fun b hb => ⟨⟨by have := hb.1; simp at this; omega, by rw [hszE]; have := hb.2; omega⟩, by have := hb.2; omega⟩)
    · rw [HL2.out]
      exact q3.stay (hK _ (fun b e => by subst e; omega))
end Go.Proofs.Ytbcjhiponbfbnaa
namespace Go.Proofs.Ytbcjhiponbfbnaa
open Go.RowKit
set_option maxRecDepth 100000
variable {S T : Nat → Prop}

set_option maxHeartbeats 400000 in
theorem eqBoolS_c (v u : Value) (xs : List Bool) (w : World) (hv : Bools S w v xs) (hu : Bools T w u xs) : Calls Try.prog 73 #[v, u] w (RBn w True) := by
  obtain ⟨a, ca, rfl, hn⟩ := hv.shape
  obtain ⟨b, cb, rfl, _⟩ := hu.shape
  have HV := Lib.hid hv; clear hv
  have HU := Lib.hid hu; clear hu
  have hne := bneS (xs.length : Int)
  go_enter Try.func73, Try.ntmps73
  go_wp2
  go_loopw [5] (fun i wr => ∃ k : Nat, k ≤ xs.length ∧ i = .int .i64 k ∧ ∃ q, wr = w.drewN q) (fun i _ => xs.length - (intOf i).toNat)
  case atStart => exact ⟨0, by omega, rfl, 0, rfl⟩
  case round =>
    obtain ⟨k, hk, rfl, q, rfl⟩ := hrel
    by_cases hlt : k < xs.length
    · obtain ⟨ba, oa, rfl, hca⟩ := HV.out.at hlt
      obtain ⟨bb, ob, rfl, hcb⟩ := HU.out.at hlt
      have hx := bneSelf xs[k]
      generalize xs[k] = x at *
      go_wp2_with fail
      go_quiet (fail)
      go_wp2
      go_roundw
      case rel => exact ⟨k + 1, by omega, by go_num, _, rfl⟩
      case measure => simp [intOf]; omega
    · go_wp2
      go_ret
      exact RBn.mk (belReflN _ _ _) (by simp)
set_option maxHeartbeats 400000 in
theorem eqIntSS_c (v u : Value) (xs : List (List Int)) (w : World) (hv : IntSS S w v xs) (hu : IntSS T w u xs) : Calls Try.prog 72 #[v, u] w (RBn w True) := by
  obtain ⟨a, ca, rfl, hn⟩ := hv.shape
  obtain ⟨b, cb, rfl, _⟩ := hu.shape
  have HV := Lib.hid hv; clear hv
  have HU := Lib.hid hu; clear hu
  have hne := bneS (xs.length : Int)
  go_enter Try.func72, Try.ntmps72
  go_wp2
  go_loopw [5] (fun i wr => ∃ k : Nat, k ≤ xs.length ∧ i = .int .i64 k ∧ Below w.heap.size w wr) (fun i _ => xs.length - (intOf i).toNat)
  case atStart => exact ⟨0, by omega, rfl, Below.refl _ _⟩
  case round =>
    obtain ⟨k, hk, rfl, hb⟩ := hrel
    by_cases hlt : k < xs.length
    · obtain ⟨ba, oa, v1, rfl, hca, hv1⟩ := (HV.out.stay (kpB hb)).at hlt
      obtain ⟨bb, ob, u1, rfl, hcb, hu1⟩ := (HU.out.stay (kpB hb)).at hlt
      obtain ⟨a1, c1, rfl, hn1⟩ := hv1.shape
      obtain ⟨b1, d1, rfl, _⟩ := hu1.shape
      have HV1 := Lib.hid hv1; clear hv1
      have HU1 := Lib.hid hu1; clear hu1
      go_wp2_with fail
      go_still_tail 8, (by kernel_rfl)
      change wpList _ _ _ _ _ wr.drew
      have hb2 : Below w.heap.size w wr.drew := hb.drew
      have HV2 : Hid (Ints S wr.drew _ _) := HV1.out
      have HU2 : Hid (Ints T wr.drew _ _) := HU1.out
      clear HV1 HU1
      generalize wr.drew = w2 at *
      go_wp2_with fail
      refine (eqIntS_c _ _ _ _ HV2.out HU2.out).mono ?_
      rintro e w3 ⟨b, rfl, hb3, hp⟩
      cases b
      · exact (hbF hp trivial).elim
      clear hp
      go_wp2
      go_roundw
      case rel => exact ⟨k + 1, by omega, by go_num, hb2.trans (hb3.mono hb2.size)⟩
      case measure => simp [intOf]; omega
    · go_wp2
      go_ret
      exact RBn.mk hb (by simp)
set_option maxHeartbeats 400000 in
theorem eqDfa_c (vn ve un ue : Value) (D : DfaD) (w : World) (hv : DfaR S w vn ve D) (hu : DfaR T w un ue D) : Calls Try.prog 30 #[.agg #[vn, ve], .agg #[un, ue]] w (RBn w True) := by
  obtain ⟨a, c, b, d, rfl, rfl, hn, hm⟩ := hv.shapes
  obtain ⟨a', c', b', d', rfl, rfl, _, _⟩ := hu.shapes
  have hb0 : Below w.heap.size w ((w.alloc (.cells #[.slice a D.1.length c, .slice b D.2.length d] 52)).alloc (.cells #[.slice a' D.1.length c', .slice b' D.2.length d'] 52)) :=
    ((Below.refl _ _).alloc (Nat.le_refl _) _).alloc (by simp) _
  have k0 := blkOld (o := .cells #[.slice a' D.1.length c', .slice b' D.2.length d'] 52) (blkNew w (.cells #[.slice a D.1.length c, .slice b D.2.length d] 52) rfl)
  have k1 := blkNew (w.alloc (.cells #[.slice a D.1.length c, .slice b D.2.length d] 52)) (.cells #[.slice a' D.1.length c', .slice b' D.2.length d'] 52) (b := w.heap.size + 1) (by simp)
  have HV := Lib.hid (hv.stay (kpB hb0)); clear hv
  have HU := Lib.hid (hu.stay (kpB hb0)); clear hu
  obtain ⟨W, hW⟩ : ∃ W, W = (w.alloc (.cells #[.slice a D.1.length c, .slice b D.2.length d] 52)).alloc (.cells #[.slice a' D.1.length c', .slice b' D.2.length d'] 52) := ⟨_, rfl⟩
  rw [← hW] at hb0 k0 k1 HV HU
  have HW := Lib.hid hW; clear hW
  have K0 := Lib.hid k0; clear k0
  have K1 := Lib.hid k1; clear k1
  go_enter Try.func30, Try.ntmps30
  go_wp2_with fail
  rw [← HW.out]
  refine (eqIntSS_c _ _ D.1 W HV.out.1 HU.out.1).mono ?_
  rintro e w1 ⟨b1, rfl, hb1, hp⟩
  cases b1
  · exact (hbF hp trivial).elim
  clear hp
  obtain ⟨c0, c1, _, _⟩ := blk2 (blkBel hb1 K0.out)
  obtain ⟨d0, d1, _, _⟩ := blk2 (blkBel hb1 K1.out)
  go_wp2_with fail
  refine (eqBoolS_c _ _ D.2 w1 (HV.out.2.stay (kpB hb1)) (HU.out.2.stay (kpB hb1))).mono ?_
  rintro e w2 ⟨b2, rfl, hb2, hp⟩
  cases b2
  · exact (hbF hp trivial).elim
  clear hp
  go_wp2
  go_ret
  exact RBn.mk ((hb0.trans (hb1.mono hb0.size)).trans (hb2.mono (Nat.le_trans hb0.size hb1.size))) (by simp)
end Go.Proofs.Ytbcjhiponbfbnaa
namespace Go.Proofs.Ytbcjhiponbfbnaa
open Go.RowKit
set_option maxRecDepth 100000
variable {S T : Nat → Prop}
/-- Blocks outside S stay as they are. -/
structure Fr (S : Nat → Prop) (w w' : World) : Prop where
  os : w'.os = w.os
  tape : w'.tape = w.tape
  output : w'.output = w.output
  size : w.heap.size ≤ w'.heap.size
  block : ∀ b, b < w.heap.size → ¬ S b → w'.heap[b]? = w.heap[b]?
theorem Fr.refl (w : World) : Fr S w w := ⟨rfl, rfl, rfl, Nat.le_refl _, fun _ _ _ => rfl⟩
theorem Fr.trans {a b c : World} (h : Fr S a b) (k : Fr S b c) : Fr S a c :=
  ⟨k.os.trans h.os, k.tape.trans h.tape, k.output.trans h.output, Nat.le_trans h.size k.size, fun i hi hs => (k.block i (Nat.lt_of_lt_of_le hi h.size) hs).trans (h.block i hi hs)⟩
theorem Fr.grown {w w' : World} {row : Option Nat} (h : w.grownBy w' row) (hr : ∀ b, row = some b → S b) : Fr S w w' :=
  ⟨h.os, h.tape, h.output, h.size, fun b hb hs => h.block b hb (fun e => hs (hr b e.symm))⟩
theorem Fr.bel {w w' : World} (h : Below w.heap.size w w') : Fr S w w' := ⟨h.os, h.tape, h.output, h.size, fun b hb _ => h.block b hb⟩
theorem Fr.low {w w' : World} {B : Nat} (h : Fr S w w') (hS : ∀ b, S b → B ≤ b) (hB : B ≤ w.heap.size) : Below B w w' :=
  ⟨h.os, h.tape, h.output, h.size, fun b hb => h.block b (by omega) (fun hs => by have := hS b hs; omega)⟩
theorem Fr.ks {w w' : World} (h : Fr S w w') : Ks (fun b => ¬ S b) w w' := fun b hs hb => h.block b hb hs
theorem Fr.mono {w w' : World} (h : Fr S w w') (k : ∀ b, S b → T b) : Fr T w w' := ⟨h.os, h.tape, h.output, h.size, fun b hb hs => h.block b hb (fun h => hs (k b h))⟩
/-- The call answers a slice of n elements, in new memory that may be written. -/
def RW (n : Nat) (cs : List Value) (w : World) (e : Ending) (w' : World) : Prop := ∃ v, e = .returned v ∧ Below w.heap.size w w' ∧ Hid (FlW (w.heap.size ≤ ·) w' v n cs)
/-- The first m elements turned. -/
def mkL {α : Type} (xs : List α) (f : Nat → α) (m : Nat) : List α := (List.range m).map f ++ xs.drop m
theorem mkL_zero {α : Type} (xs : List α) (f : Nat → α) : mkL xs f 0 = xs := by simp [mkL]
theorem mkL_len {α : Type} (xs : List α) (f : Nat → α) {m : Nat} (h : m ≤ xs.length) : (mkL xs f m).length = xs.length := by simp [mkL]; omega
theorem mkL_get {α : Type} (xs : List α) (f : Nat → α) {m : Nat} (h : m < xs.length) : (mkL xs f m)[m]'(by rw [mkL_len _ _ (by omega)]; exact h) = xs[m] := by
  unfold mkL
  rw [List.getElem_append_right (by simp)]
  simp
theorem mkL_set {α : Type} (xs : List α) (f : Nat → α) {m : Nat} (h : m < xs.length) : (mkL xs f m).set m (f m) = mkL xs f (m + 1) := by
  unfold mkL
  rw [List.set_append_right _ _ (by simp), List.length_map, List.length_range, Nat.sub_self, List.drop_eq_getElem_cons h, List.set_cons_zero, List.range_succ, List.map_append, List.append_assoc]
  rfl
theorem mkL_all {α : Type} (xs : List α) (f : Nat → α) : mkL xs f xs.length = (List.range xs.length).map f := by simp [mkL]
/-- A row marked. -/
def mrow (k : Int) (n : Nat) : List Int := (List.range n).map fun t : Nat => k + t
theorem mrow_len (k : Int) (n : Nat) : (mrow k n).length = n := by simp [mrow]
def tot (xss : List (List Int)) : Nat := (xss.map List.length).sum
theorem tot_take (xss : List (List Int)) {j : Nat} (h : j < xss.length) : tot (xss.take (j + 1)) = tot (xss.take j) + xss[j].length := by
  unfold tot
  rw [List.take_succ_eq_append_getElem h, List.map_append, List.sum_append]; simp
theorem tot_le (xss : List (List Int)) (j : Nat) : tot (xss.take j) ≤ tot xss := by
  have h : tot xss = tot (xss.take j) + tot (xss.drop j) := by
    unfold tot
    rw [← List.sum_append, ← List.map_append, List.take_append_drop]
  omega
theorem tot_small {xss : List (List Int)} (h : smallSS xss) : tot xss ≤ 1099511627776 := by
  have key : ∀ (ys : List (List Int)), (∀ r ∈ ys, r.length ≤ 1048576) → tot ys ≤ ys.length * 1048576 := by
    intro ys
    induction ys with
    | nil => intro _; simp [tot]
    | cons a t ih =>
      intro hh
      have h1 := ih (fun r hr => hh r (List.mem_cons_of_mem _ hr))
      have h2 := hh a (List.mem_cons_self ..)
      unfold tot at h1 ⊢
      simp only [List.map_cons, List.sum_cons, List.length_cons]
      omega
  have := key xss h.2
  have := h.1
  omega
/-- The rows marked, one behind the other. -/
def mrows (k : Int) (xss : List (List Int)) (i : Nat) : List Int := mrow (k + tot (xss.take i)) (xss.getD i []).length
def mks (k : Int) (xss : List (List Int)) : List (List Int) := (List.range xss.length).map (mrows k xss)
theorem mks_len (k : Int) (xss : List (List Int)) : (mks k xss).length = xss.length := by simp [mks]
theorem mrows_eq (k : Int) (xss : List (List Int)) {i : Nat} (h : i < xss.length) : mrows k xss i = mrow (k + tot (xss.take i)) xss[i].length := by
  unfold mrows
  rw [List.getD_eq_getElem?_getD, List.getElem?_eq_getElem h]; rfl
theorem mks_get (k : Int) (xss : List (List Int)) {i : Nat} (h : i < xss.length) : (mks k xss)[i]'(by rw [mks_len]; exact h) = mrow (k + tot (xss.take i)) xss[i].length := by
  unfold mks
  rw [List.getElem_map, List.getElem_range, mrows_eq k xss h]
def bmk (k : Int) : Bool := k % 3 == 0
def mkDfa (k : Int) (D : DfaD) : DfaD := (mks k D.1, (List.range D.2.length).map fun t : Nat => bmk (k + tot D.1 + t))
/-- One row of a writable slice of rows. -/
theorem IntSSW.row {w : World} {a : Option Addr} {n cap : Nat} {xss : List (List Int)} (h : IntSSW S w (.slice a n cap) xss) {j : Nat} (hj : j < xss.length) :
    ∃ b off u g, a = some ⟨b, off, none⟩ ∧ w.cell? ⟨b, off + j, none⟩ = some u ∧ S g ∧ FlW (· = g) w u xss[j].length (xss[j].map (.int .i64 ·)) ∧
      ∀ w' r, r.length = xss[j].length → Fr (· = g) w w' → FlW (· = g) w' u r.length (r.map (.int .i64 ·)) → IntSSW S w' (.slice a n cap) (xss.set j r) := by
  obtain ⟨o, g, vs, hS, h1, h2, h3⟩ := h
  obtain ⟨b, off, e, hb, hc, _⟩ := h1.at (i := j) (by simpa using hj)
  rw [List.getElem_map, List.getElem_range] at hc
  refine ⟨b, off, _, g j, e, hc, (h2 j hj).1, (h2 j hj).2.2, fun w' r hr hF hW => ?_⟩
  refine ⟨o, g, vs, hS, ?_, ?_, ?_⟩
  · rw [List.length_set]
    exact h1.stay (hF.ks.mono fun b e => by subst e; exact fun e => (h2 j hj).2.1 e.symm)
  · intro i hi
    rw [List.length_set] at hi
    refine ⟨(h2 i hi).1, (h2 i hi).2.1, ?_⟩
    by_cases hij : i = j
    · subst hij
      simp only [List.getElem_set_self]
      exact hW
    · rw [List.getElem_set_ne (Ne.symm hij)]
      refine (h2 i hi).2.2.stay (hF.ks.mono fun b e => ?_)
      subst e
      rcases Nat.lt_or_gt_of_ne hij with h | h
      · exact h3 i j h hj
      · exact fun e => h3 j i h hi e.symm
  · rw [List.length_set]; exact h3
set_option maxHeartbeats 400000 in
theorem markIntS_f (v : Value) (n : Nat) (cs : List Value) (k : Int) (w : World) (h : FlW S w v n cs) (hl : cs.length = n) (hk : 0 ≤ k ∧ k ≤ 4000000000000) (hn : n ≤ 1000000000000) :
    Calls Try.prog 118 #[v, .int .i64 k] w fun e w' => e = .returned (.int .i64 (k + n)) ∧ Hid (Fr S w w') ∧ Hid (FlW S w' v n ((List.range (n)).map fun t : Nat => .int .i64 (k + t))) := by
  obtain ⟨a, cap, rfl, _⟩ := h.shape
  have H := Lib.hid h; clear h
  have Hl := Lib.hid hl; clear hl
  obtain ⟨hk0, hk1⟩ := hk
  go_enter Try.func118, Try.ntmps118
  go_wp2
  go_loopw [1, 5] (fun x i wr => ∃ j : Nat, j ≤ n ∧ i = .int .i64 j ∧ x = .int .i64 (k + j) ∧ Hid (Fr S w wr) ∧ Hid (FlW S wr (.slice a n cap) n (mkd cs (fun t : Nat => .int .i64 (k + t)) (j)))) (fun _ i _ => n - (intOf i).toNat)
  case atStart => exact ⟨0, by omega, rfl, by simp, Fr.refl _, by rw [mkd_zero]; exact H⟩
  case round =>
    obtain ⟨j, hj, rfl, rfl, hg, hr⟩ := hrel
    by_cases hlt : j < n
    · have hlen := mkd_length cs (fun t : Nat => .int .i64 (k + t)) (j) (by rw [Hl.out]; omega)
      obtain ⟨b, off, rfl, hbS, c0, f0⟩ := hr.out.at (i := j) (by rw [hlen, Hl.out]; omega)
      have hs0 := hr.out.set (j) (.int .i64 (k + j)) (by rw [hlen, Hl.out]; omega)
      have e0 := mkd_set cs (fun t : Nat => .int .i64 (k + t)) (j) (by rw [Hl.out]; omega)
      rw [e0] at hs0
      obtain ⟨u0, d0⟩ : ∃ u, wr.cell? ⟨b, off + j, none⟩ = some u := ⟨_, c0⟩
      have g0 := f0 (off + j)
      have Hs := Lib.hid hs0
      have hG : Hid (Fr S w (wr.setCell ⟨b, off + j, none⟩ (.int .i64 (k + j)))) := (Fr.trans hg.out (Fr.grown (grownSet _ _ _ _) (fun x e => by injection e with e; exact e ▸ hbS)))
      clear c0 hs0 e0 hlen hr f0 hg H hbS
      go_wp2
      go_roundw
      case rel => exact ⟨j + 1, by omega, by go_num, by rw [show k + (j : Int) + 1 = k + ((j + 1 : Nat) : Int) by omega], hG, Hs⟩
      case measure => simp [intOf]; omega
    · obtain rfl : j = n := by omega
      go_wp2
      go_ret
      refine ⟨rfl, hg, ?_⟩
      rw [← mkd_all cs _ _ Hl.out]
      exact hr
set_option maxHeartbeats 400000 in
theorem markPartS_f (v : Value) (n : Nat) (cs : List Value) (k : Int) (w : World) (h : FlW S w v n cs) (hl : cs.length = 2 * n) (hk : 0 ≤ k ∧ k ≤ 4000000000000) (hn : n ≤ 1000000000000) :
    Calls Try.prog 32 #[v, .int .i64 k] w fun e w' => e = .returned (.int .i64 (k + 2 * n)) ∧ Hid (Fr S w w') ∧ Hid (FlW S w' v n ((List.range (2 * n)).map fun t : Nat => .int .i64 (k + t))) := by
  obtain ⟨a, cap, rfl, _⟩ := h.shape
  have H := Lib.hid h; clear h
  have Hl := Lib.hid hl; clear hl
  obtain ⟨hk0, hk1⟩ := hk
  go_enter Try.func32, Try.ntmps32
  go_wp2
  go_loopw [1, 5] (fun x i wr => ∃ j : Nat, j ≤ n ∧ i = .int .i64 j ∧ x = .int .i64 (k + 2 * j) ∧ Hid (Fr S w wr) ∧ Hid (FlW S wr (.slice a n cap) n (mkd cs (fun t : Nat => .int .i64 (k + t)) (2 * j)))) (fun _ i _ => n - (intOf i).toNat)
  case atStart => exact ⟨0, by omega, rfl, by simp, Fr.refl _, by rw [mkd_zero]; exact H⟩
  case round =>
    obtain ⟨j, hj, rfl, rfl, hg, hr⟩ := hrel
    by_cases hlt : j < n
    · have hlen := mkd_length cs (fun t : Nat => .int .i64 (k + t)) (2 * j) (by rw [Hl.out]; omega)
      obtain ⟨b, off, rfl, hbS, c0, f0⟩ := hr.out.at (i := j * 2) (by rw [hlen, Hl.out]; omega)
      obtain ⟨b', off', e, _, c1, _⟩ := hr.out.at (i := j * 2 + 1) (by rw [hlen, Hl.out]; omega)
      cases e
      have hs0 := hr.out.set (2 * j) (.int .i64 (k + 2 * j)) (by rw [hlen, Hl.out]; omega)
      have e0 := mkd_set cs (fun t : Nat => .int .i64 (k + t)) (2 * j) (by rw [Hl.out]; omega)
      rw [show k + ((2 * j : Nat) : Int) = k + 2 * (j : Int) by omega] at e0
      rw [e0] at hs0
      have hlen1 := mkd_length cs (fun t : Nat => .int .i64 (k + t)) (2 * j + 1) (by rw [Hl.out]; omega)
      have hs1 := hs0.set (2 * j + 1) (.int .i64 (k + 2 * j + 1)) (by rw [hlen1, Hl.out]; omega)
      have e1 := mkd_set cs (fun t : Nat => .int .i64 (k + t)) (2 * j + 1) (by rw [Hl.out]; omega)
      rw [show k + ((2 * j + 1 : Nat) : Int) = k + 2 * (j : Int) + 1 by omega] at e1
      rw [e1] at hs1
      obtain ⟨u0, d0⟩ : ∃ u, wr.cell? ⟨b, off + j * 2, none⟩ = some u := ⟨_, c0⟩
      have g0 := f0 (off + j * 2)
      obtain ⟨u1, d1⟩ : ∃ u, wr.cell? ⟨b, off + j * 2 + 1, none⟩ = some u := ⟨_, c1⟩
      have g1 := f0 (off + j * 2 + 1)
      have Hs := Lib.hid hs1
      rw [show off + 2 * j = off + j * 2 by omega, show off + (2 * j + 1) = off + j * 2 + 1 by omega] at Hs
      have hG : Hid (Fr S w ((wr.setCell ⟨b, off + j * 2, none⟩ (.int .i64 (k + 2 * j))).setCell ⟨b, off + j * 2 + 1, none⟩ (.int .i64 (k + 2 * j + 1)))) := (Fr.trans (Fr.trans hg.out (Fr.grown (grownSet _ _ _ _) (fun x e => by injection e with e; exact e ▸ hbS))) (Fr.grown (grownSet _ _ _ _) (fun x e => by injection e with e; exact e ▸ hbS)))
      clear c0 hs0 e0 c1 hs1 e1 hlen1 hlen hr f0 hg H hbS
      go_wp2
      go_roundw
      case rel => exact ⟨j + 1, by omega, by go_num, by rw [show k + 2 * (j : Int) + 1 + 1 = k + 2 * ((j + 1 : Nat) : Int) by omega], hG, Hs⟩
      case measure => simp [intOf]; omega
    · obtain rfl : j = n := by omega
      go_wp2
      go_ret
      refine ⟨rfl, hg, ?_⟩
      rw [← mkd_all cs _ _ Hl.out]
      exact hr
set_option maxHeartbeats 400000 in
theorem markIntSS_f (v : Value) (xss : List (List Int)) (k : Int) (w : World) (h : IntSSW S w v xss) (hk : 0 ≤ k ∧ k ≤ 2000000000000) (hn : tot xss ≤ 2000000000000) (hr : ∀ r ∈ xss, r.length ≤ 1000000000000) :
    Calls Try.prog 74 #[v, .int .i64 k] w fun e w' => e = .returned (.int .i64 (k + tot xss)) ∧ Hid (Fr S w w') ∧ Hid (IntSSW S w' v (mks k xss)) := by
  obtain ⟨a, cap, rfl, _⟩ := h.rd.shape
  have H := Lib.hid h; clear h
  have HR := Lib.hid hr; clear hr
  obtain ⟨hk0, hk1⟩ := hk
  go_enter Try.func74, Try.ntmps74
  go_wp2
  go_loopw [1, 5] (fun x i wr => ∃ j : Nat, j ≤ xss.length ∧ i = .int .i64 j ∧ x = .int .i64 (k + tot (xss.take j)) ∧ Hid (Fr S w wr) ∧ Hid (IntSSW S wr (.slice a xss.length cap) (mkL xss (mrows k xss) j))) (fun _ i _ => xss.length - (intOf i).toNat)
  case atStart => exact ⟨0, by omega, rfl, by simp [tot], Fr.refl _, by rw [mkL_zero]; exact H⟩
  case round =>
    clear H
    obtain ⟨j, hj, rfl, rfl, hg, hr⟩ := hrel
    by_cases hlt : j < xss.length
    · have hjm : j < (mkL xss (mrows k xss) j).length := by rw [mkL_len _ _ (by omega)]; exact hlt
      obtain ⟨b, off, u, g, rfl, hc, hS, hW, hset⟩ := hr.out.row hjm
      have hget := mkL_get xss (mrows k xss) hlt
      have Htt := Lib.hid (tot_take xss hlt)
      have hjI : (j : Int) < (xss.length : Int) := by omega
      have hrl := HR.out _ (List.getElem_mem hlt)
      have htl := tot_le xss j
      have Hst := Lib.hid (mkL_set xss (mrows k xss) hlt)
      rw [mrows_eq k xss hlt] at Hst
      rw [hget] at hW hset
      have HW := Lib.hid hW
      have HSet := Lib.hid hset
      clear hW hset hget hjm hr
      obtain ⟨t, ht⟩ : ∃ t, t = tot (xss.take j) := ⟨_, rfl⟩
      obtain ⟨r, hr⟩ : ∃ r, r = xss[j] := ⟨_, rfl⟩
      rw [← ht] at Htt Hst htl ⊢
      rw [← hr] at Htt Hst hrl HW HSet
      clear ht hr
      go_wp2_with fail
      refine (markIntS_f (S := (· = g)) u r.length _ (k + (t : Int)) wr HW.out (by simp) (by omega) hrl).mono ?_
      rintro e w2 ⟨rfl, hF, hM⟩
      have hg2 : Hid (Fr S w w2) := hg.out.trans (hF.out.mono (fun b e => by subst e; exact hS))
      have hr2 : Hid (IntSSW S w2 (.slice (some ⟨b, off, none⟩) xss.length cap) (mkL xss (mrows k xss) (j + 1))) := by
        have := HSet.out w2 (mrow (k + (t : Int)) r.length) (mrow_len _ _) hF.out (by
          rw [mrow_len]
          have := hM.out
          unfold mrow
          rw [List.map_map]
          exact this)
        rw [Hst.out] at this
        exact this
      clear HSet HW Hst hF hM hg
      go_wp2
      go_roundw
      case rel => exact ⟨j + 1, by omega, by go_num, by rw [Htt.out]; congr 1; omega, hg2, hr2⟩
      case measure => simp [intOf]; omega
    · obtain rfl : j = xss.length := by omega
      rw [List.take_length]
      rw [mkL_all] at hr
      go_wp2
      go_ret
      exact ⟨rfl, hg, hr⟩
set_option maxHeartbeats 400000 in
theorem markBoolS_f (v : Value) (n : Nat) (cs : List Value) (k : Int) (w : World) (h : FlW S w v n cs) (hl : cs.length = n) (hk : 0 ≤ k ∧ k ≤ 4000000000000) (hn : n ≤ 1000000000000) :
    Calls Try.prog 75 #[v, .int .i64 k] w fun e w' => e = .returned (.int .i64 (k + n)) ∧ Hid (Fr S w w') ∧ Hid (FlW S w' v n ((List.range (n)).map fun t : Nat => .bool (bmk (k + t)))) := by
  obtain ⟨a, cap, rfl, _⟩ := h.shape
  have H := Lib.hid h; clear h
  have Hl := Lib.hid hl; clear hl
  obtain ⟨hk0, hk1⟩ := hk
  go_enter Try.func75, Try.ntmps75
  go_wp2
  go_loopw [1, 5] (fun x i wr => ∃ j : Nat, j ≤ n ∧ i = .int .i64 j ∧ x = .int .i64 (k + j) ∧ Hid (Fr S w wr) ∧ Hid (FlW S wr (.slice a n cap) n (mkd cs (fun t : Nat => .bool (bmk (k + t))) (j)))) (fun _ i _ => n - (intOf i).toNat)
  case atStart => exact ⟨0, by omega, rfl, by simp, Fr.refl _, by rw [mkd_zero]; exact H⟩
  case round =>
    obtain ⟨j, hj, rfl, rfl, hg, hr⟩ := hrel
    by_cases hlt : j < n
    · have hlen := mkd_length cs (fun t : Nat => .bool (bmk (k + t))) (j) (by rw [Hl.out]; omega)
      obtain ⟨b, off, rfl, hbg, c0, f0⟩ := hr.out.at (i := j) (by rw [hlen, Hl.out]; omega)
      have hs0 := hr.out.set (j) (.bool (bmk (k + j))) (by rw [hlen, Hl.out]; omega)
      have e0 := mkd_set cs (fun t : Nat => .bool (bmk (k + t))) (j) (by rw [Hl.out]; omega)
      rw [e0] at hs0
      obtain ⟨u0, d0⟩ : ∃ u, wr.cell? ⟨b, off + j, none⟩ = some u := ⟨_, c0⟩
      have g0 := f0 (off + j)
      have Hs := Lib.hid hs0
      have hG : Hid (Fr S w (wr.setCell ⟨b, off + j, none⟩ (.bool (bmk (k + j))))) := hg.out.trans (Fr.grown (grownSet _ _ _ _) (fun x e => by injection e with e; exact e ▸ hbg))
      clear c0 hs0 e0 hlen hr f0 hg H hbg
      go_wp2
      go_roundw
      case rel => exact ⟨j + 1, by omega, by go_num, by rw [show k + (j : Int) + 1 = k + ((j + 1 : Nat) : Int) by omega], by simpa only [bmk] using hG, by simpa only [bmk] using Hs⟩
      case measure => simp [intOf]; omega
    · obtain rfl : j = n := by omega
      go_wp2
      go_ret
      refine ⟨rfl, hg, ?_⟩
      rw [← mkd_all cs _ _ Hl.out]
      exact hr
set_option maxHeartbeats 400000 in
theorem markDfa_f (vn ve : Value) (D : DfaD) (k : Int) (w : World) (h : DfaW S w vn ve D) (hSb : ∀ b, S b → b < w.heap.size) (hk : 0 ≤ k ∧ k ≤ 2000000000000) (hs : smallD D) :
    Calls Try.prog 31 #[.agg #[vn, ve], .int .i64 k] w fun e w' => e = .returned (.int .i64 (k + tot D.1 + D.2.length)) ∧ Hid (Fr S w w') ∧ Hid (DfaW S w' vn ve (mkDfa k D)) := by
  obtain ⟨q, hS, h1, h2⟩ := h
  obtain ⟨a, ca, rfl, _⟩ := h1.rd.shape
  obtain ⟨b, d, rfl, _⟩ := h2.shape
  have ht := tot_small hs.1
  have hl2 := hs.2
  have HS := Lib.hid hs
  have HSb := Lib.hid hSb
  clear hs hSb
  obtain ⟨hk0, hk1⟩ := hk
  obtain ⟨W, hW⟩ : ∃ W, W = w.alloc (.cells #[.slice a D.1.length ca, .slice b D.2.length d] 52) := ⟨_, rfl⟩
  have hb0 : Below w.heap.size w W := by rw [hW]; exact (Below.refl _ _).alloc (Nat.le_refl _) _
  have K0 : Hid (W.heap[w.heap.size]? = some (.cells #[.slice a D.1.length ca, .slice b D.2.length d] 52 (0, 0))) := by rw [hW]; exact blkNew _ _ rfl
  have H1 := Lib.hid (h1.stay (ksB hb0))
  have H2 := Lib.hid (h2.stay (ksB hb0))
  have HF0 : Hid (Fr S w W) := Fr.bel hb0
  have HW := Lib.hid hW
  have hqS := Lib.hid hS
  clear h1 h2 hW hS
  obtain ⟨t, htt⟩ : ∃ t, t = tot D.1 := ⟨_, rfl⟩
  have Hc := markIntSS_f (S := fun b => S b ∧ b ≠ q) _ D.1 k W H1.out ⟨hk0, hk1⟩ (by omega) (fun r hr => by have := HS.out.1.2 r hr; omega)
  rw [← htt] at Hc ht ⊢
  have HC := Lib.hid Hc
  have Htt := Lib.hid htt
  clear Hc htt
  obtain ⟨c0, c1, _, _⟩ := blk2 K0.out
  rw [HW.out] at c0 c1
  go_enter Try.func31, Try.ntmps31
  go_wp2_with fail
  clear c0 c1
  rw [← HW.out]
  refine HC.out.mono ?_
  rintro e w2 ⟨rfl, hF, hM⟩
  have K2 : Hid (w2.heap[w.heap.size]? = some (.cells #[.slice a D.1.length ca, .slice b D.2.length d] 52 (0, 0))) := by
    rw [← K0.out]
    exact hF.out.block _ (Array.getElem?_eq_some_iff.1 K0.out).1 (fun h => by have := HSb.out _ h.1; omega)
  have H2' := Lib.hid (H2.out.stay (hF.out.ks.mono fun b e => by subst e; exact fun h => h.2 rfl))
  have HF2 := Lib.hid (HF0.out.trans (hF.out.mono fun b h => h.1))
  clear H2 K0 HC HF0 hF H1
  obtain ⟨c0, c1, _, _⟩ := blk2 K2.out
  go_wp2_with fail
  clear c0 c1
  refine (markBoolS_f (S := (· = q)) _ D.2.length _ (k + (t : Int)) w2 H2'.out (by simp) (by omega) (by omega)).mono ?_
  rintro e w3 ⟨rfl, hF3, hM3⟩
  go_wp2
  go_ret
  refine ⟨rfl, HF2.out.trans (hF3.out.mono fun b e => by subst e; exact hqS.out), q, hqS.out, hM.out.stay (hF3.out.ks.mono fun b h => h.2), ?_⟩
  have := hM3.out
  unfold mkDfa
  rw [← Htt.out, List.map_map, List.length_map, List.length_range]
  exact this
end Go.Proofs.Ytbcjhiponbfbnaa
namespace Go.Proofs.Ytbcjhiponbfbnaa
open Go.RowKit
set_option maxRecDepth 100000
variable {S T : Nat → Prop}
theorem take_eq_succ {α : Type} {xs ys : List α} {k : Nat} (h : xs.take k = ys.take k) (h1 : k < xs.length) (h2 : k < ys.length) (he : xs[k] = ys[k]) : xs.take (k + 1) = ys.take (k + 1) := by
  rw [List.take_succ_eq_append_getElem h1, List.take_succ_eq_append_getElem h2, h, he]
theorem take_eq_all {α : Type} {xs ys : List α} {k : Nat} (h : xs.take k = ys.take k) (h1 : k = xs.length) (h2 : k = ys.length) : xs = ys := by
  subst h1
  rw [List.take_of_length_le (Nat.le_refl _), h2, List.take_of_length_le (Nat.le_refl _)] at h
  exact h
end Go.Proofs.Ytbcjhiponbfbnaa
