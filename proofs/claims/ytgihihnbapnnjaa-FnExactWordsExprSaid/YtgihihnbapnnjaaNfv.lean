/- Whether automata with choices are valid: the program's and the reference's. -/
import Derived.Test.YtgihihnbapnnjaaDfv
import Derived.Test.YtgihihnbapnnjaaWrd
namespace Go.Proofs.Ytgihihnbapnnjaa
open Go.RowKit
set_option maxRecDepth 100000
variable {S T : Nat → Prop}
/-- Numbers of states, ascending, as far as k. -/
def okSk (xs : List Int) (n : Int) (k : Nat) : Prop := ∀ i (h : i < xs.length), i < k → (0 ≤ xs[i] ∧ xs[i] ≤ n - 1) ∧ (0 < i → xs[i - 1] < xs[i])
def okS (xs : List Int) (n : Int) : Prop := okSk xs n xs.length
def okM (n : Int) (m : Int × Int × Int) : Prop := (0 ≤ m.1 ∧ m.1 ≤ n - 1) ∧ (0 ≤ m.2.2 ∧ m.2.2 ≤ n - 1) ∧ (-1 ≤ m.2.1 ∧ m.2.1 ≤ 2)
/-- The automaton is valid. -/
def okN (D : NfaD) : Prop := (0 ≤ D.states ∧ D.states ≤ 40) ∧ D.moves.length ≤ 400 ∧ okS D.firsts D.states ∧ okS D.ends D.states ∧ ∀ m ∈ D.moves, okM D.states m
theorem okSk_zero (xs : List Int) (n : Int) : okSk xs n 0 := fun _ _ h => absurd h (Nat.not_lt_zero _)
theorem okSk_next {xs : List Int} {n : Int} {k : Nat} (h : okSk xs n k) (hk : k < xs.length) (h1 : 0 ≤ xs[k] ∧ xs[k] ≤ n - 1) (h2 : 0 < k → xs[k - 1] < xs[k]) : okSk xs n (k + 1) := fun i hi hik => by
  rcases Nat.lt_succ_iff_lt_or_eq.1 hik with h3 | rfl
  · exact h i hi h3
  · exact ⟨h1, h2⟩
theorem okS_all {xs : List Int} {n : Int} (h : okSk xs n xs.length) : okS xs n := h
theorem NfaR.shapes {w : World} {vm vf ve : Value} {D : NfaD} (h : NfaR S w vm vf ve D) : ∃ a ca b cb d cd, vm = .slice a D.moves.length ca ∧ vf = .slice b D.firsts.length cb ∧ ve = .slice d D.ends.length cd ∧ D.moves.length ≤ 9223372036854775807 ∧ D.firsts.length ≤ 9223372036854775807 ∧ D.ends.length ≤ 9223372036854775807 := by
  obtain ⟨a, ca, e1, h1⟩ := Trips.shape h.1
  obtain ⟨b, cb, e2, h2⟩ := Ints.shape h.2.1
  obtain ⟨d, cd, e3, h3⟩ := Ints.shape h.2.2
  exact ⟨a, ca, b, cb, d, cd, e1, e2, e3, h1, h2, h3⟩
theorem blk4 {w : World} {b : Nat} {x y z u : Value} {t : TypeId} (h : w.heap[b]? = some (.cells #[x, y, z, u] t (0, 0))) :
    w.cell? ⟨b, 0, none⟩ = some x ∧ w.cell? ⟨b, 1, none⟩ = some y ∧ w.cell? ⟨b, 2, none⟩ = some z ∧ w.cell? ⟨b, 3, none⟩ = some u :=
  ⟨by rw [cell_of_row w b 0 _ _ _ h]; rfl, by rw [cell_of_row w b 1 _ _ _ h]; rfl, by rw [cell_of_row w b 2 _ _ _ h]; rfl, by rw [cell_of_row w b 3 _ _ _ h]; rfl⟩
theorem blk3 {w : World} {b : Nat} {x y z : Value} {t : TypeId} (h : w.heap[b]? = some (.cells #[x, y, z] t (0, 0))) :
    w.cell? ⟨b, 0, none⟩ = some x ∧ w.cell? ⟨b, 1, none⟩ = some y ∧ w.cell? ⟨b, 2, none⟩ = some z :=
  ⟨by rw [cell_of_row w b 0 _ _ _ h]; rfl, by rw [cell_of_row w b 1 _ _ _ h]; rfl, by rw [cell_of_row w b 2 _ _ _ h]; rfl⟩
set_option maxHeartbeats 1000000 in
theorem areStates_c (v : Value) (xs : List Int) (n : Int) (w : World) (h : Ints S w v xs) (hn : 0 ≤ n ∧ n ≤ 1000000000) : Calls Try.prog 131 #[v, .int .i64 n] w (RB w (okS xs n)) := by
  obtain ⟨a, cap, rfl, hl⟩ := h.shape
  have H := Lib.hid h; clear h
  obtain ⟨hn0, hn1⟩ := hn
  go_enter Try.func131, Try.ntmps131
  go_wp2
  go_loop [9] (fun i => ∃ k : Nat, k ≤ xs.length ∧ i = .int .i64 k ∧ Hid (okSk xs n k)) (fun i => xs.length - (intOf i).toNat)
  case atStart => exact ⟨0, by omega, rfl, okSk_zero _ _⟩
  case round =>
    obtain ⟨k, hk, rfl, hr⟩ := hrel
    by_cases hlt : k < xs.length
    · obtain ⟨b, off, rfl, hc⟩ := H.out.at hlt
      have hkI : (k : Int) < (xs.length : Int) := by omega
      have Hno : Hid (∀ P : Prop, (okS xs n → P) ∨ True) := fun _ => .inr trivial
      clear Hno
      obtain ⟨x, hx⟩ : ∃ x, x = xs[k] := ⟨_, rfl⟩
      rw [← hx] at hc
      have Hx := Lib.hid hx; clear hx
      go_wp2_with fail
      refine (within_c x 0 (n - 1) w).mono ?_
      rintro e w' ⟨bb, rfl, rfl, hb⟩
      cases bb
      · have hp := Lib.hid (hbF hb); clear hb
        go_wp2
        go_ret
        exact RB.mk ⟨nofun, fun ho => by have := (ho k hlt hlt).1; rw [← Hx.out] at this; exact (hp.out this).elim⟩
      · have hp := Lib.hid (hbT hb); clear hb
        rcases Nat.eq_zero_or_pos k with hk0 | hk0
        · subst hk0
          have hr2 : Hid (okSk xs n (0 + 1)) := okSk_next hr.out hlt (by rw [← Hx.out]; exact hp.out) (fun h => absurd h (Nat.lt_irrefl _))
          go_wp2
          go_round
          case rel => exact ⟨0 + 1, by omega, by go_num, hr2⟩
          case measure => simp [intOf]; omega
        · obtain ⟨j, rfl⟩ : ∃ j, k = j + 1 := ⟨k - 1, by omega⟩
          obtain ⟨b', off', e, hd⟩ := H.out.at (k := j) (by omega)
          cases e
          obtain ⟨y, hy⟩ : ∃ y, y = xs[j] := ⟨_, rfl⟩
          rw [← hy] at hd
          have Hy := Lib.hid hy; clear hy
          have hj1 : ((j + 1 : Nat) : Int) - 1 = (j : Int) := by omega
          have hj0 : (0 : Int) < ((j + 1 : Nat) : Int) := by omega
          by_cases hge : x ≤ y
          · go_wp2
            go_ret
            exact RB.mk ⟨nofun, fun ho => by
              have := (ho (j + 1) hlt hlt).2 (by omega)
              have e : xs[j + 1 - 1] = xs[j] := rfl
              rw [e, ← Hx.out, ← Hy.out] at this
              omega⟩
          · have hr2 : Hid (okSk xs n (j + 1 + 1)) := okSk_next hr.out hlt (by rw [← Hx.out]; exact hp.out) (fun _ => by
              have e : xs[j + 1 - 1] = xs[j] := rfl
              rw [e, ← Hx.out, ← Hy.out]
              omega)
            go_wp2
            go_round
            case rel => exact ⟨j + 1 + 1, by omega, by go_num, hr2⟩
            case measure => simp [intOf]; omega
    · obtain rfl : k = xs.length := by omega
      go_wp2
      go_ret
      exact RB.mk ⟨fun _ => hr.out, fun _ => rfl⟩
theorem idxFuncMove_c (v : Value) (xs : List (Int × Int × Int)) (w : World) (h : Trips S w v xs) (f : FuncId) (cs : Array Value) (p : Int × Int × Int → Prop) (hcf : HasBody f)
    (hf : ∀ x ∈ xs, ∀ w', Below w.heap.size w w' → Calls Try.prog f (#[.agg #[.int .i64 x.1, .int .i64 x.2.1, .int .i64 x.2.2]] ++ cs) w' (RBn w' (p x))) :
    Calls Try.prog 162 #[v, .func (.func f) #[] cs] w (RIn w fun n => (n = -1 ∧ ∀ x ∈ xs, ¬ p x) ∨ (0 ≤ n ∧ ∃ x ∈ xs, p x)) := by
  obtain ⟨a, cap, rfl, hn⟩ := h.shape
  have H := Lib.hid h; clear h
  have HF := Lib.hid hf; clear hf
  have HC := Lib.hid hcf; clear hcf
  go_enter Try.func162, Try.ntmps162
  go_wp2
  go_loopw [8] (fun i wr => ∃ k : Nat, k ≤ xs.length ∧ i = .int .i64 k ∧ Below w.heap.size w wr ∧ Hid (∀ j (hj : j < xs.length), j < k → ¬ p xs[j])) (fun i _ => xs.length - (intOf i).toNat)
  case atStart => exact ⟨0, by omega, rfl, Below.refl _ _, fun j _ hj => absurd hj (Nat.not_lt_zero _)⟩
  case round =>
    obtain ⟨k, hk, rfl, hb, hr⟩ := hrel
    by_cases hlt : k < xs.length
    · obtain ⟨b, off, rfl, h0, h1, h2⟩ := (Trips.stay H.out (kpB hb)).at hlt
      have Hf := Lib.hid (HF.out _ (List.getElem_mem hlt) wr hb)
      obtain ⟨x, hx⟩ : ∃ x, x = xs[k] := ⟨_, rfl⟩
      rw [← hx] at h0 h1 h2 Hf
      have Hx := Lib.hid hx; clear hx
      go_wp2_with fail
      rw [HC.out, Oper.upon_enter]
      refine Hf.out.mono ?_
      rintro e w' ⟨b, rfl, hb2, hbp⟩
      have hB := hb.trans (hb2.mono hb.size)
      clear h0 h1 h2 hb hb2
      cases b
      · have hp := Lib.hid (hbF hbp); clear hbp
        go_wp2
        go_roundw
        case rel => exact ⟨k + 1, by omega, by go_num, hB, fun j hj hjk => by
          rcases Nat.lt_succ_iff_lt_or_eq.1 hjk with h | rfl
          · exact hr.out j hj h
          · rw [← Hx.out]; exact hp.out⟩
        case measure => simp [intOf]; omega
      · have hp := Lib.hid (hbT hbp); clear hbp
        go_wp2
        go_ret
        exact RIn.mk hB (.inr ⟨by omega, x, by rw [Hx.out]; exact List.getElem_mem hlt, hp.out⟩)
    · go_wp2
      go_ret
      exact RIn.mk hb (.inl ⟨rfl, fun x hx => by
        obtain ⟨j, hj, rfl⟩ := List.getElem_of_mem hx
        exact hr.out j hj (by omega)⟩)
theorem contFuncMove_c (v : Value) (xs : List (Int × Int × Int)) (w : World) (h : Trips S w v xs) (f : FuncId) (cs : Array Value) (p : Int × Int × Int → Prop) (hcf : HasBody f)
    (hf : ∀ x ∈ xs, ∀ w', Below w.heap.size w w' → Calls Try.prog f (#[.agg #[.int .i64 x.1, .int .i64 x.2.1, .int .i64 x.2.2]] ++ cs) w' (RBn w' (p x))) :
    Calls Try.prog 132 #[v, .func (.func f) #[] cs] w (RBn w (∃ x ∈ xs, p x)) := by
  have H := Lib.hid (idxFuncMove_c v xs w h f cs p hcf hf)
  clear h hf hcf
  go_enter Try.func132, Try.ntmps132
  go_wp2_with fail
  refine H.out.mono ?_
  rintro e w' ⟨n, rfl, hb, hn⟩
  rcases hn.out with ⟨rfl, h⟩ | ⟨h0, h⟩
  · have h' := Lib.hid h
    clear hn h
    go_wp2
    go_ret
    exact RBn.mk hb ⟨nofun, fun ⟨x, hx, hp⟩ => (h'.out x hx hp).elim⟩
  · have h' := Lib.hid h
    clear hn h
    go_wp2
    go_ret
    exact RBn.mk hb ⟨fun _ => h'.out, fun _ => rfl⟩
set_option maxHeartbeats 1000000 in
theorem okMove_c (m : Int × Int × Int) (n : Int) (B : Nat) (w : World) (h : w.cell? ⟨B, 0, none⟩ = some (.int .i64 n)) (hn : 0 ≤ n ∧ n ≤ 40) :
    Calls Try.prog 133 (#[.agg #[.int .i64 m.1, .int .i64 m.2.1, .int .i64 m.2.2]] ++ #[.pointer (some ⟨B, 0, none⟩)]) w (RBn w (¬ okM n m)) := by
  obtain ⟨x, y, z⟩ := m
  obtain ⟨hn0, hn1⟩ := hn
  have hBl : B < w.heap.size := World.block_lt_of_cell? _ _ h
  dsimp only
  have hb0 : Below w.heap.size w (w.alloc (.cells #[.int .i64 x, .int .i64 y, .int .i64 z] 89)) := (Below.refl _ _).alloc (Nat.le_refl _) _
  have Hb0 := Lib.hid hb0
  clear hb0
  go_enter Try.func133, Try.ntmps133
  go_wp2_with fail
  refine (within_c x 0 (n - 1) _).mono ?_
  rintro e w' ⟨b1, rfl, rfl, h1⟩
  cases b1
  · have hp := Lib.hid (hbF h1); clear h1
    go_wp2
    go_ret
    exact RBn.mk Hb0.out ⟨fun _ ho => hp.out ho.1, fun _ => rfl⟩
  · have hp1 := Lib.hid (hbT h1); clear h1
    go_wp2_with fail
    refine (within_c z 0 (n - 1) _).mono ?_
    rintro e w' ⟨b2, rfl, rfl, h2⟩
    cases b2
    · have hp := Lib.hid (hbF h2); clear h2
      go_wp2
      go_ret
      exact RBn.mk Hb0.out ⟨fun _ ho => hp.out ho.2.1, fun _ => rfl⟩
    · have hp2 := Lib.hid (hbT h2); clear h2
      go_wp2_with fail
      refine (within_c y (-1) 2 _).mono ?_
      rintro e w' ⟨b3, rfl, rfl, h3⟩
      cases b3
      · have hp := Lib.hid (hbF h3); clear h3
        go_wp2
        go_ret
        exact RBn.mk Hb0.out ⟨fun _ ho => hp.out ho.2.2, fun _ => rfl⟩
      · have hp3 := Lib.hid (hbT h3); clear h3
        go_wp2
        go_ret
        exact RBn.mk Hb0.out ⟨nofun, fun h => (h ⟨hp1.out, hp2.out, hp3.out⟩).elim⟩
theorem body_okMove : HasBody 133 := by
  intro args w
  kernel_rfl
end Go.Proofs.Ytgihihnbapnnjaa
