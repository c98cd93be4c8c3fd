/- Whether automata with choices are valid: the program's and the reference's.
Whether automata with choices are valid: the whole check.
The laws' small helpers: sizes, copies, comparisons of equal data, marks. Sizes of at most 1048576.
The laws' marks: what a mark writes, and that a held mark is found. Sizes of at most 10^12.
The laws' helpers on nested data: sizes, copies. Sizes of at most 1048576.
The laws' comparisons of equal data: automata, spans, tokens. No condition.
Marks of automata.
The semantic laws' comparisons: lists of numbers, of marks, automata. -/
import Derived.StillTailTactics
import Derived.Test.YtcbhfopabgiiiaaGB
import Derived.Test.YtcbhfopabgiiiaaGA
set_option linter.unusedSimpArgs false
set_option linter.unusedVariables false
set_option linter.unusedSectionVars false
namespace Go.Proofs.Ytcbhfopabgiiiaa
open Go.RowKit
set_option maxRecDepth 100000
variable {S T : Nat → Prop}
/-- Numbers of states, ascending, as far as k. -/
def okSk (xs : List Int) (n : Int) (k : Nat) : Prop := ∀ i (h : i < xs.length), i < k → (0 ≤ xs[i] ∧ xs[i] ≤ n - 1) ∧ (0 < i → xs[i - 1] < xs[i])
def okS (xs : List Int) (n : Int) : Prop := okSk xs n xs.length
def okM (n : Int) (m : Int × Int × Int) : Prop := (0 ≤ m.1 ∧ m.1 ≤ n - 1) ∧ (0 ≤ m.2.2 ∧ m.2.2 ≤ n - 1) ∧ (-1 ≤ m.2.1 ∧ m.2.1 ≤ 2)
/-- The automaton is valid. -/
def okN (D : NfaD) : Prop := (0 ≤ D.states ∧ D.states ≤ 40) ∧ D.moves.length ≤ 400 ∧ okS D.firsts D.states ∧ okS D.ends D.states ∧ ∀ m ∈ D.moves, okM D.states m
theorem okSk_zero (xs : List Int) (n : Int) : okSk xs n 0 := fun _ _ h => absurd h (Nat.not_lt_zero _)
theorem okSk_next {xs : List Int} {n : Int} {k : Nat} (h : okSk xs n k) (hk : k < xs.length) (h1 : 0 ≤ xs[k] ∧ xs[k] ≤ n - 1) (h2 : 0 < k → xs[k - 1] < xs[k]) : okSk xs n (k + 1) := fun i hi hik => by
  rcases Nat.lt_succ_iff_lt_or_eq.1 hik with h3 | rfl
  · exact h i hi h3
  · exact ⟨h1, h2⟩
theorem okS_all {xs : List Int} {n : Int} (h : okSk xs n xs.length) : okS xs n := h
theorem NfaR.shapes {w : World} {vm vf ve : Value} {D : NfaD} (h : NfaR S w vm vf ve D) : ∃ a ca b cb d cd, vm = .slice a D.moves.length ca ∧ vf = .slice b D.firsts.length cb ∧ ve = .slice d D.ends.length cd ∧ D.moves.length ≤ 9223372036854775807 ∧ D.firsts.length ≤ 9223372036854775807 ∧ D.ends.length ≤ 9223372036854775807 := by
  obtain ⟨a, ca, e1, h1⟩ := Trips.shape h.1
  obtain ⟨b, cb, e2, h2⟩ := Ints.shape h.2.1
  obtain ⟨d, cd, e3, h3⟩ := Ints.shape h.2.2
  exact ⟨a, ca, b, cb, d, cd, e1, e2, e3, h1, h2, h3⟩
theorem blk4 {w : World} {b : Nat} {x y z u : Value} {t : TypeId} (h : w.heap[b]? = some (.cells #[x, y, z, u] t (0, 0))) :
    w.cell? ⟨b, 0, none⟩ = some x ∧ w.cell? ⟨b, 1, none⟩ = some y ∧ w.cell? ⟨b, 2, none⟩ = some z ∧ w.cell? ⟨b, 3, none⟩ = some u :=
  ⟨by rw [cell_of_row w b 0 _ _ _ h]; rfl, by rw [cell_of_row w b 1 _ _ _ h]; rfl, by rw [cell_of_row w b 2 _ _ _ h]; rfl, by rw [cell_of_row w b 3 _ _ _ h]; rfl⟩
theorem blk3 {w : World} {b : Nat} {x y z : Value} {t : TypeId} (h : w.heap[b]? = some (.cells #[x, y, z] t (0, 0))) :
    w.cell? ⟨b, 0, none⟩ = some x ∧ w.cell? ⟨b, 1, none⟩ = some y ∧ w.cell? ⟨b, 2, none⟩ = some z :=
  ⟨by rw [cell_of_row w b 0 _ _ _ h]; rfl, by rw [cell_of_row w b 1 _ _ _ h]; rfl, by rw [cell_of_row w b 2 _ _ _ h]; rfl⟩
set_option maxHeartbeats 1000000 in
theorem areStates_c (v : Value) (xs : List Int) (n : Int) (w : World) (h : Ints S w v xs) (hn : 0 ≤ n ∧ n ≤ 1000000000) : Calls Try.prog 158 #[v, .int .i64 n] w (RB w (okS xs n)) := by
  obtain ⟨a, cap, rfl, hl⟩ := h.shape
  have H := Lib.hid h; clear h
  obtain ⟨hn0, hn1⟩ := hn
  go_enter Try.func158, Try.ntmps158
  go_wp2
  go_loop [9] (fun i => ∃ k : Nat, k ≤ xs.length ∧ i = .int .i64 k ∧ Hid (okSk xs n k)) (fun i => xs.length - (intOf i).toNat)
  case atStart => exact ⟨0, by omega, rfl, okSk_zero _ _⟩
  case round =>
    obtain ⟨k, hk, rfl, hr⟩ := hrel
    by_cases hlt : k < xs.length
    · obtain ⟨b, off, rfl, hc⟩ := H.out.at hlt
      have hkI : (k : Int) < (xs.length : Int) := by omega
      have Hno : Hid (∀ P : Prop, (okS xs n → P) ∨ True) := fun _ => .inr trivial
      clear Hno
      obtain ⟨x, hx⟩ : ∃ x, x = xs[k] := ⟨_, rfl⟩
      rw [← hx] at hc
      have Hx := Lib.hid hx; clear hx
      go_wp2_with fail
      refine (within_c x 0 (n - 1) w).mono ?_
      rintro e w' ⟨bb, rfl, rfl, hb⟩
      cases bb
      · have hp := Lib.hid (hbF hb); clear hb
        go_wp2
        go_ret
        exact RB.mk ⟨nofun, fun ho => by have := (ho k hlt hlt).1; rw [← Hx.out] at this; exact (hp.out this).elim⟩
      · have hp := Lib.hid (hbT hb); clear hb
        rcases Nat.eq_zero_or_pos k with hk0 | hk0
        · subst hk0
          have hr2 : Hid (okSk xs n (0 + 1)) := okSk_next hr.out hlt (by rw [← Hx.out]; exact hp.out) (fun h => absurd h (Nat.lt_irrefl _))
          go_wp2
          go_round
          case rel => exact ⟨0 + 1, by omega, by go_num, hr2⟩
          case measure => simp [intOf]; omega
        · obtain ⟨j, rfl⟩ : ∃ j, k = j + 1 := ⟨k - 1, by omega⟩
          obtain ⟨b', off', e, hd⟩ := H.out.at (k := j) (by omega)
          cases e
          obtain ⟨y, hy⟩ : ∃ y, y = xs[j] := ⟨_, rfl⟩
          rw [← hy] at hd
          have Hy := Lib.hid hy; clear hy
          have hj1 : ((j + 1 : Nat) : Int) - 1 = (j : Int) := by omega
          have hj0 : (0 : Int) < ((j + 1 : Nat) : Int) := by omega
          by_cases hge : x ≤ y
          · go_wp2
            go_ret
            exact RB.mk ⟨nofun, fun ho => by
              have := (ho (j + 1) hlt hlt).2 (by omega)
              have e : xs[j + 1 - 1] = xs[j] := rfl
              rw [e, ← Hx.out, ← Hy.out] at this
              omega⟩
          · have hr2 : Hid (okSk xs n (j + 1 + 1)) := okSk_next hr.out hlt (by rw [← Hx.out]; exact hp.out) (fun _ => by
              have e : xs[j + 1 - 1] = xs[j] := rfl
              rw [e, ← Hx.out, ← Hy.out]
              omega)
            go_wp2
            go_round
            case rel => exact ⟨j + 1 + 1, by omega, by go_num, hr2⟩
            case measure => simp [intOf]; omega
    · obtain rfl : k = xs.length := by omega
      go_wp2
      go_ret
      exact RB.mk ⟨fun _ => hr.out, fun _ => rfl⟩
theorem idxFuncMove_c (v : Value) (xs : List (Int × Int × Int)) (w : World) (h : Trips S w v xs) (f : FuncId) (cs : Array Value) (p : Int × Int × Int → Prop) (hcf : HasBody f)
    (hf : ∀ x ∈ xs, ∀ w', Below w.heap.size w w' → Calls Try.prog f (#[.agg #[.int .i64 x.1, .int .i64 x.2.1, .int .i64 x.2.2]] ++ cs) w' (RBn w' (p x))) :
    Calls Try.prog 187 #[v, .func (.func f) #[] cs] w (RIn w fun n => (n = -1 ∧ ∀ x ∈ xs, ¬ p x) ∨ (0 ≤ n ∧ ∃ x ∈ xs, p x)) := by
  obtain ⟨a, cap, rfl, hn⟩ := h.shape
  have H := Lib.hid h; clear h
  have HF := Lib.hid hf; clear hf
  have HC := Lib.hid hcf; clear hcf
  go_enter Try.func187, Try.ntmps187
  go_wp2
  go_loopw [8] (fun i wr => ∃ k : Nat, k ≤ xs.length ∧ i = .int .i64 k ∧ Below w.heap.size w wr ∧ Hid (∀ j (hj : j < xs.length), j < k → ¬ p xs[j])) (fun i _ => xs.length - (intOf i).toNat)
  case atStart => exact ⟨0, by omega, rfl, Below.refl _ _, fun j _ hj => absurd hj (Nat.not_lt_zero _)⟩
  case round =>
    obtain ⟨k, hk, rfl, hb, hr⟩ := hrel
    by_cases hlt : k < xs.length
    · obtain ⟨b, off, rfl, h0, h1, h2⟩ := (Trips.stay H.out (kpB hb)).at hlt
      have Hf := Lib.hid (HF.out _ (List.getElem_mem hlt) wr hb)
      obtain ⟨x, hx⟩ : ∃ x, x = xs[k] := ⟨_, rfl⟩
      rw [← hx] at h0 h1 h2 Hf
      have Hx := Lib.hid hx; clear hx
      go_wp2_with fail
      rw [HC.out, Oper.upon_enter]
      refine Hf.out.mono ?_
      rintro e w' ⟨b, rfl, hb2, hbp⟩
      have hB := hb.trans (hb2.mono hb.size)
      clear h0 h1 h2 hb hb2
      cases b
      · have hp := Lib.hid (hbF hbp); clear hbp
        go_wp2
        go_roundw
        case rel => exact ⟨k + 1, by omega, by go_num, hB, fun j hj hjk => by
          rcases Nat.lt_succ_iff_lt_or_eq.1 hjk with h | rfl
          · exact hr.out j hj h
          · rw [← Hx.out]; exact hp.out⟩
        case measure => simp [intOf]; omega
      · have hp := Lib.hid (hbT hbp); clear hbp
        go_wp2
        go_ret
        exact RIn.mk hB (.inr ⟨by omega, x, by rw [Hx.out]; exact List.getElem_mem hlt, hp.out⟩)
    · go_wp2
      go_ret
      exact RIn.mk hb (.inl ⟨rfl, fun x hx => by
        obtain ⟨j, hj, rfl⟩ := List.getElem_of_mem hx
        exact hr.out j hj (by omega)⟩)
theorem contFuncMove_c (v : Value) (xs : List (Int × Int × Int)) (w : World) (h : Trips S w v xs) (f : FuncId) (cs : Array Value) (p : Int × Int × Int → Prop) (hcf : HasBody f)
    (hf : ∀ x ∈ xs, ∀ w', Below w.heap.size w w' → Calls Try.prog f (#[.agg #[.int .i64 x.1, .int .i64 x.2.1, .int .i64 x.2.2]] ++ cs) w' (RBn w' (p x))) :
    Calls Try.prog 159 #[v, .func (.func f) #[] cs] w (RBn w (∃ x ∈ xs, p x)) := by
  have H := Lib.hid (idxFuncMove_c v xs w h f cs p hcf hf)
  clear h hf hcf
  go_enter Try.func159, Try.ntmps159
  go_wp2_with fail
  refine H.out.mono ?_
  rintro e w' ⟨n, rfl, hb, hn⟩
  rcases hn.out with ⟨rfl, h⟩ | ⟨h0, h⟩
  · have h' := Lib.hid h
    clear hn h
    go_wp2
    go_ret
    exact RBn.mk hb ⟨nofun, fun ⟨x, hx, hp⟩ => (h'.out x hx hp).elim⟩
  · have h' := Lib.hid h
    clear hn h
    go_wp2
    go_ret
    exact RBn.mk hb ⟨fun _ => h'.out, fun _ => rfl⟩
set_option maxHeartbeats 1000000 in
theorem okMove_c (m : Int × Int × Int) (n : Int) (B : Nat) (w : World) (h : w.cell? ⟨B, 0, none⟩ = some (.int .i64 n)) (hn : 0 ≤ n ∧ n ≤ 40) :
    Calls Try.prog 160 (#[.agg #[.int .i64 m.1, .int .i64 m.2.1, .int .i64 m.2.2]] ++ #[.pointer (some ⟨B, 0, none⟩)]) w (RBn w (¬ okM n m)) := by
  obtain ⟨x, y, z⟩ := m
  obtain ⟨hn0, hn1⟩ := hn
  have hBl : B < w.heap.size := World.block_lt_of_cell? _ _ h
  dsimp only
  have hb0 : Below w.heap.size w (w.alloc (.cells #[.int .i64 x, .int .i64 y, .int .i64 z] 80)) := (Below.refl _ _).alloc (Nat.le_refl _) _
  have Hb0 := Lib.hid hb0
  clear hb0
  go_enter Try.func160, Try.ntmps160
  go_wp2_with fail
  refine (within_c x 0 (n - 1) _).mono ?_
  rintro e w' ⟨b1, rfl, rfl, h1⟩
  cases b1
  · have hp := Lib.hid (hbF h1); clear h1
    go_wp2
    go_ret
    exact RBn.mk Hb0.out ⟨fun _ ho => hp.out ho.1, fun _ => rfl⟩
  · have hp1 := Lib.hid (hbT h1); clear h1
    go_wp2_with fail
    refine (within_c z 0 (n - 1) _).mono ?_
    rintro e w' ⟨b2, rfl, rfl, h2⟩
    cases b2
    · have hp := Lib.hid (hbF h2); clear h2
      go_wp2
      go_ret
      exact RBn.mk Hb0.out ⟨fun _ ho => hp.out ho.2.1, fun _ => rfl⟩
    · have hp2 := Lib.hid (hbT h2); clear h2
      go_wp2_with fail
      refine (within_c y (-1) 2 _).mono ?_
      rintro e w' ⟨b3, rfl, rfl, h3⟩
      cases b3
      · have hp := Lib.hid (hbF h3); clear h3
        go_wp2
        go_ret
        exact RBn.mk Hb0.out ⟨fun _ ho => hp.out ho.2.2, fun _ => rfl⟩
      · have hp3 := Lib.hid (hbT h3); clear h3
        go_wp2
        go_ret
        exact RBn.mk Hb0.out ⟨nofun, fun h => (h ⟨hp1.out, hp2.out, hp3.out⟩).elim⟩
theorem body_okMove : HasBody 160 := by
  intro args w
  kernel_rfl
end Go.Proofs.Ytcbhfopabgiiiaa
namespace Go.Proofs.Ytcbhfopabgiiiaa
open Go.RowKit
set_option maxRecDepth 100000
variable {S T : Nat → Prop}
set_option maxHeartbeats 2000000 in
theorem NfaValid_c (vm vf ve : Value) (D : NfaD) (w : World) (h : NfaR S w vm vf ve D) : Calls Try.prog 117 #[.agg #[.int .i64 D.states, vm, vf, ve]] w (RBn w (okN D)) := by
  obtain ⟨a, ca, b, cb, d, cd, rfl, rfl, rfl, hm, hf, he⟩ := (h).shapes
  obtain ⟨W, hW⟩ : ∃ W, W = w.alloc (.cells #[.int .i64 D.states, .slice a D.moves.length ca, .slice b D.firsts.length cb, .slice d D.ends.length cd] 75) := ⟨_, rfl⟩
  have Hb0 : Hid (Below w.heap.size w W) := by rw [hW]; exact (Below.refl _ _).alloc (Nat.le_refl _) _
  have K0 : Hid (W.heap[w.heap.size]? = some (.cells #[.int .i64 D.states, .slice a D.moves.length ca, .slice b D.firsts.length cb, .slice d D.ends.length cd] 75 (0, 0))) := by rw [hW]; exact blkNew _ _ rfl
  have Hz : Hid (W.heap.size = w.heap.size + 1) := by rw [hW]; simp [Hid]
  have H := Lib.hid ((h).stay (kpB Hb0.out)); clear h
  have HW := Lib.hid hW; clear hW
  obtain ⟨c0, c1, c2, c3⟩ := blk4 K0.out
  rw [HW.out] at c0 c1 c2 c3
  go_enter Try.func117, Try.ntmps117
  go_wp2_with fail
  clear c0 c1 c2 c3
  rw [← HW.out]
  obtain ⟨c0, c1, c2, c3⟩ := blk4 K0.out
  clear HW
  refine (within_c D.states 0 40 W).mono ?_
  rintro e w' ⟨b1, rfl, rfl, h1⟩
  cases b1
  · have hp := Lib.hid (hbF h1); clear h1
    go_wp2
    go_ret
    exact RBn.mk Hb0.out ⟨nofun, fun ho => (hp.out ho.1).elim⟩
  · obtain ⟨hs0, hs1⟩ := hbT h1; clear h1
    by_cases hml : 400 < D.moves.length
    · have hmI : (400 : Int) < (D.moves.length : Int) := by omega
      go_wp2
      go_ret
      exact RBn.mk Hb0.out ⟨nofun, fun ho => by have := ho.2.1; omega⟩
    · have hmI : ¬ ((400 : Int) < (D.moves.length : Int)) := by omega
      go_wp2_with fail
      refine (areStates_c _ D.firsts D.states W H.out.2.1 (by omega)).mono ?_
      rintro e w' ⟨b2, rfl, rfl, h2⟩
      cases b2
      · have hp := Lib.hid (hbF h2); clear h2
        go_wp2
        go_ret
        exact RBn.mk Hb0.out ⟨nofun, fun ho => (hp.out ho.2.2.1).elim⟩
      · have hp2 := Lib.hid (hbT h2); clear h2
        go_wp2_with fail
        refine (areStates_c _ D.ends D.states W H.out.2.2 (by omega)).mono ?_
        rintro e w' ⟨b3, rfl, rfl, h3⟩
        cases b3
        · have hp := Lib.hid (hbF h3); clear h3
          go_wp2
          go_ret
          exact RBn.mk Hb0.out ⟨nofun, fun ho => (hp.out ho.2.2.2.1).elim⟩
        · have hp3 := Lib.hid (hbT h3); clear h3
          have HC := Lib.hid (contFuncMove_c _ D.moves W H.out.1 160 #[.pointer (some ⟨w.heap.size, 0, none⟩)] (fun m => ¬ okM D.states m) body_okMove (fun m _ w' hb => okMove_c m D.states _ w' (kpB (S := fun _ => True) hb _ _ trivial c0) ⟨hs0, hs1⟩))
          go_wp2_with fail
          clear c0 c1 c2 c3
          refine HC.out.mono ?_
          rintro e w2 ⟨b4, rfl, hb, h4⟩
          have hB := Lib.hid (Hb0.out.trans (hb.mono Hb0.out.size))
          clear HC hb
          cases b4
          · have hp := Lib.hid (hbF h4); clear h4
            go_wp2
            go_ret
            exact RBn.mk hB.out ⟨fun _ => ⟨⟨hs0, hs1⟩, by omega, hp2.out, hp3.out, fun m hm => Classical.byContradiction fun hn => hp.out ⟨m, hm, hn⟩⟩, fun _ => rfl⟩
          · have hp := Lib.hid (hbT h4); clear h4
            go_wp2
            go_ret
            exact RBn.mk hB.out ⟨nofun, fun ho => by obtain ⟨m, hm, hn⟩ := hp.out; exact (hn (ho.2.2.2.2 m hm)).elim⟩
end Go.Proofs.Ytcbhfopabgiiiaa
namespace Go.Proofs.Ytcbhfopabgiiiaa
open Go.RowKit
set_option maxRecDepth 100000
variable {S T : Nat → Prop}

theorem bneS (x : Int) : (x != x) = false := by simp
theorem beqS (x : Int) : (x == x) = true := by simp
end Go.Proofs.Ytcbhfopabgiiiaa
namespace Go.Proofs.Ytcbhfopabgiiiaa
open Go.RowKit
set_option maxRecDepth 100000
variable {S T : Nat → Prop}

end Go.Proofs.Ytcbhfopabgiiiaa
namespace Go.Proofs.Ytcbhfopabgiiiaa
open Go.RowKit
set_option maxRecDepth 100000
variable {S T : Nat → Prop}

/-- What a size function answers: -1, or what is left, and then p holds. -/
def Sz (w : World) (left : Int) (p : Prop) (e : Ending) (w' : World) : Prop := ∃ m : Int, e = .returned (.int .i64 m) ∧ Below w.heap.size w w' ∧ Hid (m = -1 ∨ (0 ≤ m ∧ m ≤ left ∧ p))
theorem Sz.no {w w' : World} {left : Int} {p : Prop} (h : Below w.heap.size w w') : Sz w left p (.returned (.int .i64 (-1))) w' := ⟨-1, rfl, h, .inl rfl⟩
theorem Sz.yes {w w' : World} {left m : Int} {p : Prop} (h : Below w.heap.size w w') (h0 : 0 ≤ m) (h1 : m ≤ left) (hp : p) : Sz w left p (.returned (.int .i64 m)) w' := ⟨m, rfl, h, .inr ⟨h0, h1, hp⟩⟩

def smallSS (xss : List (List Int)) : Prop := xss.length ≤ 1048576 ∧ ∀ r ∈ xss, r.length ≤ 1048576
def smallD (D : DfaD) : Prop := smallSS D.1 ∧ D.2.length ≤ 1048576
end Go.Proofs.Ytcbhfopabgiiiaa
namespace Go.Proofs.Ytcbhfopabgiiiaa
open Go.RowKit
set_option maxRecDepth 100000
variable {S T : Nat → Prop}

end Go.Proofs.Ytcbhfopabgiiiaa
namespace Go.Proofs.Ytcbhfopabgiiiaa
open Go.RowKit
set_option maxRecDepth 100000
variable {S T : Nat → Prop}
/-- Blocks outside S stay as they are. -/
structure Fr (S : Nat → Prop) (w w' : World) : Prop where
  os : w'.os = w.os
  tape : w'.tape = w.tape
  output : w'.output = w.output
  size : w.heap.size ≤ w'.heap.size
  block : ∀ b, b < w.heap.size → ¬ S b → w'.heap[b]? = w.heap[b]?
theorem Fr.refl (w : World) : Fr S w w := ⟨rfl, rfl, rfl, Nat.le_refl _, fun _ _ _ => rfl⟩
theorem Fr.trans {a b c : World} (h : Fr S a b) (k : Fr S b c) : Fr S a c :=
  ⟨k.os.trans h.os, k.tape.trans h.tape, k.output.trans h.output, Nat.le_trans h.size k.size, fun i hi hs => (k.block i (Nat.lt_of_lt_of_le hi h.size) hs).trans (h.block i hi hs)⟩
theorem Fr.grown {w w' : World} {row : Option Nat} (h : w.grownBy w' row) (hr : ∀ b, row = some b → S b) : Fr S w w' :=
  ⟨h.os, h.tape, h.output, h.size, fun b hb hs => h.block b hb (fun e => hs (hr b e.symm))⟩
theorem Fr.bel {w w' : World} (h : Below w.heap.size w w') : Fr S w w' := ⟨h.os, h.tape, h.output, h.size, fun b hb _ => h.block b hb⟩
theorem Fr.low {w w' : World} {B : Nat} (h : Fr S w w') (hS : ∀ b, S b → B ≤ b) (hB : B ≤ w.heap.size) : Below B w w' :=
  ⟨h.os, h.tape, h.output, h.size, fun b hb => h.block b (by omega) (fun hs => by have := hS b hs; omega)⟩
theorem Fr.ks {w w' : World} (h : Fr S w w') : Ks (fun b => ¬ S b) w w' := fun b hs hb => h.block b hb hs
theorem Fr.mono {w w' : World} (h : Fr S w w') (k : ∀ b, S b → T b) : Fr T w w' := ⟨h.os, h.tape, h.output, h.size, fun b hb hs => h.block b hb (fun h => hs (k b h))⟩
/-- The call answers a slice of n elements, in new memory that may be written. -/
def RW (n : Nat) (cs : List Value) (w : World) (e : Ending) (w' : World) : Prop := ∃ v, e = .returned v ∧ Below w.heap.size w w' ∧ Hid (FlW (w.heap.size ≤ ·) w' v n cs)
/-- The first m elements turned. -/
def mkL {α : Type} (xs : List α) (f : Nat → α) (m : Nat) : List α := (List.range m).map f ++ xs.drop m
theorem mkL_zero {α : Type} (xs : List α) (f : Nat → α) : mkL xs f 0 = xs := by simp [mkL]
theorem mkL_len {α : Type} (xs : List α) (f : Nat → α) {m : Nat} (h : m ≤ xs.length) : (mkL xs f m).length = xs.length := by simp [mkL]; omega
theorem mkL_get {α : Type} (xs : List α) (f : Nat → α) {m : Nat} (h : m < xs.length) : (mkL xs f m)[m]'(by rw [mkL_len _ _ (by omega)]; exact h) = xs[m] := by
  unfold mkL
  rw [List.getElem_append_right (by simp)]
  simp
theorem mkL_set {α : Type} (xs : List α) (f : Nat → α) {m : Nat} (h : m < xs.length) : (mkL xs f m).set m (f m) = mkL xs f (m + 1) := by
  unfold mkL
  rw [List.set_append_right _ _ (by simp), List.length_map, List.length_range, Nat.sub_self, List.drop_eq_getElem_cons h, List.set_cons_zero, List.range_succ, List.map_append, List.append_assoc]
  rfl
theorem mkL_all {α : Type} (xs : List α) (f : Nat → α) : mkL xs f xs.length = (List.range xs.length).map f := by simp [mkL]
/-- A row marked. -/
def mrow (k : Int) (n : Nat) : List Int := (List.range n).map fun t : Nat => k + t
theorem mrow_len (k : Int) (n : Nat) : (mrow k n).length = n := by simp [mrow]
def tot (xss : List (List Int)) : Nat := (xss.map List.length).sum
theorem tot_take (xss : List (List Int)) {j : Nat} (h : j < xss.length) : tot (xss.take (j + 1)) = tot (xss.take j) + xss[j].length := by
  unfold tot
  rw [List.take_succ_eq_append_getElem h, List.map_append, List.sum_append]; simp
theorem tot_le (xss : List (List Int)) (j : Nat) : tot (xss.take j) ≤ tot xss := by
  have h : tot xss = tot (xss.take j) + tot (xss.drop j) := by
    unfold tot
    rw [← List.sum_append, ← List.map_append, List.take_append_drop]
  omega
theorem tot_small {xss : List (List Int)} (h : smallSS xss) : tot xss ≤ 1099511627776 := by
  have key : ∀ (ys : List (List Int)), (∀ r ∈ ys, r.length ≤ 1048576) → tot ys ≤ ys.length * 1048576 := by
    intro ys
    induction ys with
    | nil => intro _; simp [tot]
    | cons a t ih =>
      intro hh
      have h1 := ih (fun r hr => hh r (List.mem_cons_of_mem _ hr))
      have h2 := hh a (List.mem_cons_self ..)
      unfold tot at h1 ⊢
      simp only [List.map_cons, List.sum_cons, List.length_cons]
      omega
  have := key xss h.2
  have := h.1
  omega
/-- The rows marked, one behind the other. -/
def mrows (k : Int) (xss : List (List Int)) (i : Nat) : List Int := mrow (k + tot (xss.take i)) (xss.getD i []).length
def mks (k : Int) (xss : List (List Int)) : List (List Int) := (List.range xss.length).map (mrows k xss)
theorem mks_len (k : Int) (xss : List (List Int)) : (mks k xss).length = xss.length := by simp [mks]
theorem mrows_eq (k : Int) (xss : List (List Int)) {i : Nat} (h : i < xss.length) : mrows k xss i = mrow (k + tot (xss.take i)) xss[i].length := by
  unfold mrows
  rw [List.getD_eq_getElem?_getD, List.getElem?_eq_getElem h]; rfl
theorem mks_get (k : Int) (xss : List (List Int)) {i : Nat} (h : i < xss.length) : (mks k xss)[i]'(by rw [mks_len]; exact h) = mrow (k + tot (xss.take i)) xss[i].length := by
  unfold mks
  rw [List.getElem_map, List.getElem_range, mrows_eq k xss h]
def bmk (k : Int) : Bool := k % 3 == 0
def mkDfa (k : Int) (D : DfaD) : DfaD := (mks k D.1, (List.range D.2.length).map fun t : Nat => bmk (k + tot D.1 + t))
/-- One row of a writable slice of rows. -/
theorem IntSSW.row {w : World} {a : Option Addr} {n cap : Nat} {xss : List (List Int)} (h : IntSSW S w (.slice a n cap) xss) {j : Nat} (hj : j < xss.length) :
    ∃ b off u g, a = some ⟨b, off, none⟩ ∧ w.cell? ⟨b, off + j, none⟩ = some u ∧ S g ∧ FlW (· = g) w u xss[j].length (xss[j].map (.int .i64 ·)) ∧
      ∀ w' r, r.length = xss[j].length → Fr (· = g) w w' → FlW (· = g) w' u r.length (r.map (.int .i64 ·)) → IntSSW S w' (.slice a n cap) (xss.set j r) := by
  obtain ⟨o, g, vs, hS, h1, h2, h3⟩ := h
  obtain ⟨b, off, e, hb, hc, _⟩ := h1.at (i := j) (by simpa using hj)
  rw [List.getElem_map, List.getElem_range] at hc
  refine ⟨b, off, _, g j, e, hc, (h2 j hj).1, (h2 j hj).2.2, fun w' r hr hF hW => ?_⟩
  refine ⟨o, g, vs, hS, ?_, ?_, ?_⟩
  · rw [List.length_set]
    exact h1.stay (hF.ks.mono fun b e => by subst e; exact fun e => (h2 j hj).2.1 e.symm)
  · intro i hi
    rw [List.length_set] at hi
    refine ⟨(h2 i hi).1, (h2 i hi).2.1, ?_⟩
    by_cases hij : i = j
    · subst hij
      simp only [List.getElem_set_self]
      exact hW
    · rw [List.getElem_set_ne (Ne.symm hij)]
      refine (h2 i hi).2.2.stay (hF.ks.mono fun b e => ?_)
      subst e
      rcases Nat.lt_or_gt_of_ne hij with h | h
      · exact h3 i j h hj
      · exact fun e => h3 j i h hi e.symm
  · rw [List.length_set]; exact h3
end Go.Proofs.Ytcbhfopabgiiiaa
namespace Go.Proofs.Ytcbhfopabgiiiaa
open Go.RowKit
set_option maxRecDepth 100000
variable {S T : Nat → Prop}
theorem take_eq_succ {α : Type} {xs ys : List α} {k : Nat} (h : xs.take k = ys.take k) (h1 : k < xs.length) (h2 : k < ys.length) (he : xs[k] = ys[k]) : xs.take (k + 1) = ys.take (k + 1) := by
  rw [List.take_succ_eq_append_getElem h1, List.take_succ_eq_append_getElem h2, h, he]
theorem take_eq_all {α : Type} {xs ys : List α} {k : Nat} (h : xs.take k = ys.take k) (h1 : k = xs.length) (h2 : k = ys.length) : xs = ys := by
  subst h1
  rw [List.take_of_length_le (Nat.le_refl _), h2, List.take_of_length_le (Nat.le_refl _)] at h
  exact h
set_option maxHeartbeats 800000 in
theorem sameInts_c (v u : Value) (xs ys : List Int) (w : World) (hv : Ints S w v xs) (hu : Ints T w u ys) : Calls Try.prog 45 #[v, u] w (RBn w (xs = ys)) := by
  obtain ⟨a, ca, rfl, hn⟩ := hv.shape
  obtain ⟨b, cb, rfl, hn'⟩ := hu.shape
  have HV := Lib.hid hv; clear hv
  have HU := Lib.hid hu; clear hu
  by_cases hl : xs.length = ys.length
  · have hlb : ((xs.length : Int) != (ys.length : Int)) = false := by simp [hl]
    have hL := Lib.hid hl; clear hl
    go_enter Try.func45, Try.ntmps45
    go_wp2
    go_loopw [5] (fun i wr => ∃ k : Nat, k ≤ xs.length ∧ i = .int .i64 k ∧ Hid (xs.take k = ys.take k) ∧ ∃ q, wr = w.drewN q) (fun i _ => xs.length - (intOf i).toNat)
    case atStart => exact ⟨0, by omega, rfl, by simp [Hid], 0, rfl⟩
    case round =>
      obtain ⟨k, hk, rfl, hT, q, rfl⟩ := hrel
      by_cases hlt : k < xs.length
      · have hlt2 : k < ys.length := by have := hL.out; omega
        obtain ⟨ba, oa, rfl, hca⟩ := HV.out.at hlt
        obtain ⟨bb, ob, rfl, hcb⟩ := HU.out.at hlt2
        have hS := Lib.hid (fun he => take_eq_succ hT.out hlt hlt2 he)
        have hN := Lib.hid (fun (he : xs = ys) => show xs[k] = ys[k] by subst he; rfl)
        generalize xs[k] = x at *
        generalize ys[k] = y at *
        have hkI : (k : Int) < (xs.length : Int) := by omega
        have hkI2 : (k : Int) < (ys.length : Int) := by omega
        by_cases hxy : x = y
        · subst hxy
          have hb := bneS x
          go_wp2_with fail
          go_quiet (fail)
          go_wp2
          go_roundw
          case rel => exact ⟨k + 1, by omega, by go_num, Lib.hid (hS.out trivial), _, rfl⟩
          case measure => simp [intOf]; omega
        · have hb : (x != y) = true := by simpa using hxy
          have Hxy := Lib.hid hxy; clear hxy
          go_wp2_with fail
          go_quiet (fail)
          go_wp2
          go_ret
          exact RBn.mk (belDrewN (belReflN _ _ _) _) (by simp; exact fun he => Hxy.out (hN.out he))
      · obtain rfl : k = xs.length := by omega
        go_wp2
        go_ret
        exact RBn.mk (belReflN _ _ _) (by simp; exact take_eq_all hT.out rfl hL.out)
  · have hlb : ((xs.length : Int) != (ys.length : Int)) = true := by simp; omega
    have hL := Lib.hid hl; clear hl
    go_enter Try.func45, Try.ntmps45
    go_wp2
    go_ret
    exact RBn.mk (Below.refl _ _) (by simp; exact fun he => hL.out (by rw [he]))
end Go.Proofs.Ytcbhfopabgiiiaa
