/- Whether automata with choices are valid: the program's and the reference's.
Whether automata with choices are valid: the whole check.
The laws' small helpers: sizes, copies, comparisons of equal data, marks. Sizes of at most 1048576.
The laws' marks: what a mark writes, and that a held mark is found. Sizes of at most 10^12.
The laws' helpers on nested data: sizes, copies. Sizes of at most 1048576.
The laws' comparisons of equal data: automata, spans, tokens. No condition.
Marks of automata.
The semantic laws' comparisons: lists of numbers, of marks, automata. -/
import Derived.StillTailTactics
import Derived.Test.YtebcnamfpajneaaGB
import Derived.Test.YtebcnamfpajneaaGA
set_option linter.unusedSimpArgs false
set_option linter.unusedVariables false
set_option linter.unusedSectionVars false
namespace Go.Proofs.Ytebcnamfpajneaa
open Go.RowKit
set_option maxRecDepth 100000
variable {S T : Nat → Prop}
/-- Numbers of states, ascending, as far as k. -/
def okSk (xs : List Int) (n : Int) (k : Nat) : Prop := ∀ i (h : i < xs.length), i < k → (0 ≤ xs[i] ∧ xs[i] ≤ n - 1) ∧ (0 < i → xs[i - 1] < xs[i])
def okS (xs : List Int) (n : Int) : Prop := okSk xs n xs.length
def okM (n : Int) (m : Int × Int × Int) : Prop := (0 ≤ m.1 ∧ m.1 ≤ n - 1) ∧ (0 ≤ m.2.2 ∧ m.2.2 ≤ n - 1) ∧ (-1 ≤ m.2.1 ∧ m.2.1 ≤ 2)
/-- The automaton is valid. -/
def okN (D : NfaD) : Prop := (0 ≤ D.states ∧ D.states ≤ 40) ∧ D.moves.length ≤ 400 ∧ okS D.firsts D.states ∧ okS D.ends D.states ∧ ∀ m ∈ D.moves, okM D.states m
theorem okSk_zero (xs : List Int) (n : Int) : okSk xs n 0 := fun _ _ h => absurd h (Nat.not_lt_zero _)
theorem okSk_next {xs : List Int} {n : Int} {k : Nat} (h : okSk xs n k) (hk : k < xs.length) (h1 : 0 ≤ xs[k] ∧ xs[k] ≤ n - 1) (h2 : 0 < k → xs[k - 1] < xs[k]) : okSk xs n (k + 1) := fun i hi hik => by
  rcases Nat.lt_succ_iff_lt_or_eq.1 hik with h3 | rfl
  · exact h i hi h3
  · exact ⟨h1, h2⟩
theorem okS_all {xs : List Int} {n : Int} (h : okSk xs n xs.length) : okS xs n := h
theorem NfaR.shapes {w : World} {vm vf ve : Value} {D : NfaD} (h : NfaR S w vm vf ve D) : ∃ a ca b cb d cd, vm = .slice a D.moves.length ca ∧ vf = .slice b D.firsts.length cb ∧ ve = .slice d D.ends.length cd ∧ D.moves.length ≤ 9223372036854775807 ∧ D.firsts.length ≤ 9223372036854775807 ∧ D.ends.length ≤ 9223372036854775807 := by
  obtain ⟨a, ca, e1, h1⟩ := Trips.shape h.1
  obtain ⟨b, cb, e2, h2⟩ := Ints.shape h.2.1
  obtain ⟨d, cd, e3, h3⟩ := Ints.shape h.2.2
  exact ⟨a, ca, b, cb, d, cd, e1, e2, e3, h1, h2, h3⟩
theorem blk4 {w : World} {b : Nat} {x y z u : Value} {t : TypeId} (h : w.heap[b]? = some (.cells #[x, y, z, u] t (0, 0))) :
    w.cell? ⟨b, 0, none⟩ = some x ∧ w.cell? ⟨b, 1, none⟩ = some y ∧ w.cell? ⟨b, 2, none⟩ = some z ∧ w.cell? ⟨b, 3, none⟩ = some u :=
  ⟨by rw [cell_of_row w b 0 _ _ _ h]; rfl, by rw [cell_of_row w b 1 _ _ _ h]; rfl, by rw [cell_of_row w b 2 _ _ _ h]; rfl, by rw [cell_of_row w b 3 _ _ _ h]; rfl⟩
theorem blk3 {w : World} {b : Nat} {x y z : Value} {t : TypeId} (h : w.heap[b]? = some (.cells #[x, y, z] t (0, 0))) :
    w.cell? ⟨b, 0, none⟩ = some x ∧ w.cell? ⟨b, 1, none⟩ = some y ∧ w.cell? ⟨b, 2, none⟩ = some z :=
  ⟨by rw [cell_of_row w b 0 _ _ _ h]; rfl, by rw [cell_of_row w b 1 _ _ _ h]; rfl, by rw [cell_of_row w b 2 _ _ _ h]; rfl⟩
end Go.Proofs.Ytebcnamfpajneaa
namespace Go.Proofs.Ytebcnamfpajneaa
open Go.RowKit
set_option maxRecDepth 100000
variable {S T : Nat → Prop}
end Go.Proofs.Ytebcnamfpajneaa
namespace Go.Proofs.Ytebcnamfpajneaa
open Go.RowKit
set_option maxRecDepth 100000
variable {S T : Nat → Prop}

theorem bneS (x : Int) : (x != x) = false := by simp
theorem beqS (x : Int) : (x == x) = true := by simp
end Go.Proofs.Ytebcnamfpajneaa
namespace Go.Proofs.Ytebcnamfpajneaa
open Go.RowKit
set_option maxRecDepth 100000
variable {S T : Nat → Prop}

end Go.Proofs.Ytebcnamfpajneaa
namespace Go.Proofs.Ytebcnamfpajneaa
open Go.RowKit
set_option maxRecDepth 100000
variable {S T : Nat → Prop}

/-- What a size function answers: -1, or what is left, and then p holds. -/
def Sz (w : World) (left : Int) (p : Prop) (e : Ending) (w' : World) : Prop := ∃ m : Int, e = .returned (.int .i64 m) ∧ Below w.heap.size w w' ∧ Hid (m = -1 ∨ (0 ≤ m ∧ m ≤ left ∧ p))
theorem Sz.no {w w' : World} {left : Int} {p : Prop} (h : Below w.heap.size w w') : Sz w left p (.returned (.int .i64 (-1))) w' := ⟨-1, rfl, h, .inl rfl⟩
theorem Sz.yes {w w' : World} {left m : Int} {p : Prop} (h : Below w.heap.size w w') (h0 : 0 ≤ m) (h1 : m ≤ left) (hp : p) : Sz w left p (.returned (.int .i64 m)) w' := ⟨m, rfl, h, .inr ⟨h0, h1, hp⟩⟩

def smallSS (xss : List (List Int)) : Prop := xss.length ≤ 1048576 ∧ ∀ r ∈ xss, r.length ≤ 1048576
def smallD (D : DfaD) : Prop := smallSS D.1 ∧ D.2.length ≤ 1048576
end Go.Proofs.Ytebcnamfpajneaa
namespace Go.Proofs.Ytebcnamfpajneaa
open Go.RowKit
set_option maxRecDepth 100000
variable {S T : Nat → Prop}

end Go.Proofs.Ytebcnamfpajneaa
namespace Go.Proofs.Ytebcnamfpajneaa
open Go.RowKit
set_option maxRecDepth 100000
variable {S T : Nat → Prop}
/-- Blocks outside S stay as they are. -/
structure Fr (S : Nat → Prop) (w w' : World) : Prop where
  os : w'.os = w.os
  tape : w'.tape = w.tape
  output : w'.output = w.output
  size : w.heap.size ≤ w'.heap.size
  block : ∀ b, b < w.heap.size → ¬ S b → w'.heap[b]? = w.heap[b]?
theorem Fr.refl (w : World) : Fr S w w := ⟨rfl, rfl, rfl, Nat.le_refl _, fun _ _ _ => rfl⟩
theorem Fr.trans {a b c : World} (h : Fr S a b) (k : Fr S b c) : Fr S a c :=
  ⟨k.os.trans h.os, k.tape.trans h.tape, k.output.trans h.output, Nat.le_trans h.size k.size, fun i hi hs => (k.block i (Nat.lt_of_lt_of_le hi h.size) hs).trans (h.block i hi hs)⟩
theorem Fr.grown {w w' : World} {row : Option Nat} (h : w.grownBy w' row) (hr : ∀ b, row = some b → S b) : Fr S w w' :=
  ⟨h.os, h.tape, h.output, h.size, fun b hb hs => h.block b hb (fun e => hs (hr b e.symm))⟩
theorem Fr.bel {w w' : World} (h : Below w.heap.size w w') : Fr S w w' := ⟨h.os, h.tape, h.output, h.size, fun b hb _ => h.block b hb⟩
theorem Fr.low {w w' : World} {B : Nat} (h : Fr S w w') (hS : ∀ b, S b → B ≤ b) (hB : B ≤ w.heap.size) : Below B w w' :=
  ⟨h.os, h.tape, h.output, h.size, fun b hb => h.block b (by omega) (fun hs => by have := hS b hs; omega)⟩
theorem Fr.ks {w w' : World} (h : Fr S w w') : Ks (fun b => ¬ S b) w w' := fun b hs hb => h.block b hb hs
theorem Fr.mono {w w' : World} (h : Fr S w w') (k : ∀ b, S b → T b) : Fr T w w' := ⟨h.os, h.tape, h.output, h.size, fun b hb hs => h.block b hb (fun h => hs (k b h))⟩
/-- The call answers a slice of n elements, in new memory that may be written. -/
def RW (n : Nat) (cs : List Value) (w : World) (e : Ending) (w' : World) : Prop := ∃ v, e = .returned v ∧ Below w.heap.size w w' ∧ Hid (FlW (w.heap.size ≤ ·) w' v n cs)
/-- The first m elements turned. -/
def mkL {α : Type} (xs : List α) (f : Nat → α) (m : Nat) : List α := (List.range m).map f ++ xs.drop m
theorem mkL_zero {α : Type} (xs : List α) (f : Nat → α) : mkL xs f 0 = xs := by simp [mkL]
theorem mkL_len {α : Type} (xs : List α) (f : Nat → α) {m : Nat} (h : m ≤ xs.length) : (mkL xs f m).length = xs.length := by simp [mkL]; omega
theorem mkL_get {α : Type} (xs : List α) (f : Nat → α) {m : Nat} (h : m < xs.length) : (mkL xs f m)[m]'(by rw [mkL_len _ _ (by omega)]; exact h) = xs[m] := by
  unfold mkL
  rw [List.getElem_append_right (by simp)]
  simp
theorem mkL_set {α : Type} (xs : List α) (f : Nat → α) {m : Nat} (h : m < xs.length) : (mkL xs f m).set m (f m) = mkL xs f (m + 1) := by
  unfold mkL
  rw [List.set_append_right _ _ (by simp), List.length_map, List.length_range, Nat.sub_self, List.drop_eq_getElem_cons h, List.set_cons_zero, List.range_succ, List.map_append, List.append_assoc]
  rfl
theorem mkL_all {α : Type} (xs : List α) (f : Nat → α) : mkL xs f xs.length = (List.range xs.length).map f := by simp [mkL]
/-- A row marked. -/
def mrow (k : Int) (n : Nat) : List Int := (List.range n).map fun t : Nat => k + t
theorem mrow_len (k : Int) (n : Nat) : (mrow k n).length = n := by simp [mrow]
def tot (xss : List (List Int)) : Nat := (xss.map List.length).sum
theorem tot_take (xss : List (List Int)) {j : Nat} (h : j < xss.length) : tot (xss.take (j + 1)) = tot (xss.take j) + xss[j].length := by
  unfold tot
  rw [List.take_succ_eq_append_getElem h, List.map_append, List.sum_append]; simp
theorem tot_le (xss : List (List Int)) (j : Nat) : tot (xss.take j) ≤ tot xss := by
  have h : tot xss = tot (xss.take j) + tot (xss.drop j) := by
    unfold tot
    rw [← List.sum_append, ← List.map_append, List.take_append_drop]
  omega
theorem tot_small {xss : List (List Int)} (h : smallSS xss) : tot xss ≤ 1099511627776 := by
  have key : ∀ (ys : List (List Int)), (∀ r ∈ ys, r.length ≤ 1048576) → tot ys ≤ ys.length * 1048576 := by
    intro ys
    induction ys with
    | nil => intro _; simp [tot]
    | cons a t ih =>
      intro hh
      have h1 := ih (fun r hr => hh r (List.mem_cons_of_mem _ hr))
      have h2 := hh a (List.mem_cons_self ..)
      unfold tot at h1 ⊢
      simp only [List.map_cons, List.sum_cons, List.length_cons]
      omega
  have := key xss h.2
  have := h.1
  omega
/-- The rows marked, one behind the other. -/
def mrows (k : Int) (xss : List (List Int)) (i : Nat) : List Int := mrow (k + tot (xss.take i)) (xss.getD i []).length
def mks (k : Int) (xss : List (List Int)) : List (List Int) := (List.range xss.length).map (mrows k xss)
theorem mks_len (k : Int) (xss : List (List Int)) : (mks k xss).length = xss.length := by simp [mks]
theorem mrows_eq (k : Int) (xss : List (List Int)) {i : Nat} (h : i < xss.length) : mrows k xss i = mrow (k + tot (xss.take i)) xss[i].length := by
  unfold mrows
  rw [List.getD_eq_getElem?_getD, List.getElem?_eq_getElem h]; rfl
theorem mks_get (k : Int) (xss : List (List Int)) {i : Nat} (h : i < xss.length) : (mks k xss)[i]'(by rw [mks_len]; exact h) = mrow (k + tot (xss.take i)) xss[i].length := by
  unfold mks
  rw [List.getElem_map, List.getElem_range, mrows_eq k xss h]
def bmk (k : Int) : Bool := k % 3 == 0
def mkDfa (k : Int) (D : DfaD) : DfaD := (mks k D.1, (List.range D.2.length).map fun t : Nat => bmk (k + tot D.1 + t))
/-- One row of a writable slice of rows. -/
theorem IntSSW.row {w : World} {a : Option Addr} {n cap : Nat} {xss : List (List Int)} (h : IntSSW S w (.slice a n cap) xss) {j : Nat} (hj : j < xss.length) :
    ∃ b off u g, a = some ⟨b, off, none⟩ ∧ w.cell? ⟨b, off + j, none⟩ = some u ∧ S g ∧ FlW (· = g) w u xss[j].length (xss[j].map (.int .i64 ·)) ∧
      ∀ w' r, r.length = xss[j].length → Fr (· = g) w w' → FlW (· = g) w' u r.length (r.map (.int .i64 ·)) → IntSSW S w' (.slice a n cap) (xss.set j r) := by
  obtain ⟨o, g, vs, hS, h1, h2, h3⟩ := h
  obtain ⟨b, off, e, hb, hc, _⟩ := h1.at (i := j) (by simpa using hj)
  rw [List.getElem_map, List.getElem_range] at hc
  refine ⟨b, off, _, g j, e, hc, (h2 j hj).1, (h2 j hj).2.2, fun w' r hr hF hW => ?_⟩
  refine ⟨o, g, vs, hS, ?_, ?_, ?_⟩
  · rw [List.length_set]
    exact h1.stay (hF.ks.mono fun b e => by subst e; exact fun e => (h2 j hj).2.1 e.symm)
  · intro i hi
    rw [List.length_set] at hi
    refine ⟨(h2 i hi).1, (h2 i hi).2.1, ?_⟩
    by_cases hij : i = j
    · subst hij
      simp only [List.getElem_set_self]
      exact hW
    · rw [List.getElem_set_ne (Ne.symm hij)]
      refine (h2 i hi).2.2.stay (hF.ks.mono fun b e => ?_)
      subst e
      rcases Nat.lt_or_gt_of_ne hij with h | h
      · exact h3 i j h hj
      · exact fun e => h3 j i h hi e.symm
  · rw [List.length_set]; exact h3
end Go.Proofs.Ytebcnamfpajneaa
namespace Go.Proofs.Ytebcnamfpajneaa
open Go.RowKit
set_option maxRecDepth 100000
variable {S T : Nat → Prop}
theorem take_eq_succ {α : Type} {xs ys : List α} {k : Nat} (h : xs.take k = ys.take k) (h1 : k < xs.length) (h2 : k < ys.length) (he : xs[k] = ys[k]) : xs.take (k + 1) = ys.take (k + 1) := by
  rw [List.take_succ_eq_append_getElem h1, List.take_succ_eq_append_getElem h2, h, he]
theorem take_eq_all {α : Type} {xs ys : List α} {k : Nat} (h : xs.take k = ys.take k) (h1 : k = xs.length) (h2 : k = ys.length) : xs = ys := by
  subst h1
  rw [List.take_of_length_le (Nat.le_refl _), h2, List.take_of_length_le (Nat.le_refl _)] at h
  exact h
set_option maxHeartbeats 800000 in
theorem sameInts_c (v u : Value) (xs ys : List Int) (w : World) (hv : Ints S w v xs) (hu : Ints T w u ys) : Calls Try.prog 21 #[v, u] w (RBn w (xs = ys)) := by
  obtain ⟨a, ca, rfl, hn⟩ := hv.shape
  obtain ⟨b, cb, rfl, hn'⟩ := hu.shape
  have HV := Lib.hid hv; clear hv
  have HU := Lib.hid hu; clear hu
  by_cases hl : xs.length = ys.length
  · have hlb : ((xs.length : Int) != (ys.length : Int)) = false := by simp [hl]
    have hL := Lib.hid hl; clear hl
    go_enter Try.func21, Try.ntmps21
    go_wp2
    go_loopw [5] (fun i wr => ∃ k : Nat, k ≤ xs.length ∧ i = .int .i64 k ∧ Hid (xs.take k = ys.take k) ∧ ∃ q, wr = w.drewN q) (fun i _ => xs.length - (intOf i).toNat)
    case atStart => exact ⟨0, by omega, rfl, by simp [Hid], 0, rfl⟩
    case round =>
      obtain ⟨k, hk, rfl, hT, q, rfl⟩ := hrel
      by_cases hlt : k < xs.length
      · have hlt2 : k < ys.length := by have := hL.out; omega
        obtain ⟨ba, oa, rfl, hca⟩ := HV.out.at hlt
        obtain ⟨bb, ob, rfl, hcb⟩ := HU.out.at hlt2
        have hS := Lib.hid (fun he => take_eq_succ hT.out hlt hlt2 he)
        have hN := Lib.hid (fun (he : xs = ys) => show xs[k] = ys[k] by subst he; rfl)
        generalize xs[k] = x at *
        generalize ys[k] = y at *
        have hkI : (k : Int) < (xs.length : Int) := by omega
        have hkI2 : (k : Int) < (ys.length : Int) := by omega
        by_cases hxy : x = y
        · subst hxy
          have hb := bneS x
          go_wp2_with fail
          go_quiet (fail)
          go_wp2
          go_roundw
          case rel => exact ⟨k + 1, by omega, by go_num, Lib.hid (hS.out trivial), _, rfl⟩
          case measure => simp [intOf]; omega
        · have hb : (x != y) = true := by simpa using hxy
          have Hxy := Lib.hid hxy; clear hxy
          go_wp2_with fail
          go_quiet (fail)
          go_wp2
          go_ret
          exact RBn.mk (belDrewN (belReflN _ _ _) _) (by simp; exact fun he => Hxy.out (hN.out he))
      · obtain rfl : k = xs.length := by omega
        go_wp2
        go_ret
        exact RBn.mk (belReflN _ _ _) (by simp; exact take_eq_all hT.out rfl hL.out)
  · have hlb : ((xs.length : Int) != (ys.length : Int)) = true := by simp; omega
    have hL := Lib.hid hl; clear hl
    go_enter Try.func21, Try.ntmps21
    go_wp2
    go_ret
    exact RBn.mk (Below.refl _ _) (by simp; exact fun he => hL.out (by rw [he]))
set_option maxHeartbeats 800000 in
theorem sameFlags_c (v u : Value) (xs ys : List Bool) (w : World) (hv : Bools S w v xs) (hu : Bools T w u ys) : Calls Try.prog 30 #[v, u] w (RBn w (xs = ys)) := by
  obtain ⟨a, ca, rfl, hn⟩ := hv.shape
  obtain ⟨b, cb, rfl, hn'⟩ := hu.shape
  have HV := Lib.hid hv; clear hv
  have HU := Lib.hid hu; clear hu
  by_cases hl : xs.length = ys.length
  · have hlb : ((xs.length : Int) != (ys.length : Int)) = false := by simp [hl]
    have hL := Lib.hid hl; clear hl
    go_enter Try.func30, Try.ntmps30
    go_wp2
    go_loopw [5] (fun i wr => ∃ k : Nat, k ≤ xs.length ∧ i = .int .i64 k ∧ Hid (xs.take k = ys.take k) ∧ ∃ q, wr = w.drewN q) (fun i _ => xs.length - (intOf i).toNat)
    case atStart => exact ⟨0, by omega, rfl, by simp [Hid], 0, rfl⟩
    case round =>
      obtain ⟨k, hk, rfl, hT, q, rfl⟩ := hrel
      by_cases hlt : k < xs.length
      · have hlt2 : k < ys.length := by have := hL.out; omega
        obtain ⟨ba, oa, rfl, hca⟩ := HV.out.at hlt
        obtain ⟨bb, ob, rfl, hcb⟩ := HU.out.at hlt2
        have hS := Lib.hid (fun he => take_eq_succ hT.out hlt hlt2 he)
        have hN := Lib.hid (fun (he : xs = ys) => show xs[k] = ys[k] by subst he; rfl)
        generalize xs[k] = x at *
        generalize ys[k] = y at *
        have hkI : (k : Int) < (xs.length : Int) := by omega
        have hkI2 : (k : Int) < (ys.length : Int) := by omega
        by_cases hxy : x = y
        · subst hxy
          cases x <;> (
            go_wp2_with fail
            go_quiet (fail)
            go_wp2
            go_roundw
            case rel => exact ⟨k + 1, by omega, by go_num, Lib.hid (hS.out trivial), _, rfl⟩
            case measure => simp [intOf]; omega)
        · have hxy2 : (x = true ∧ y = false) ∨ (x = false ∧ y = true) := by cases x <;> cases y <;> simp at hxy ⊢
          have Hxy := Lib.hid hxy; clear hxy
          rcases hxy2 with ⟨rfl, rfl⟩ | ⟨rfl, rfl⟩
          all_goals (
            go_wp2_with fail
            go_quiet (fail)
            go_wp2
            go_ret
            exact RBn.mk (belDrewN (belReflN _ _ _) _) (by simp; exact fun he => Hxy.out (hN.out he)))
      · obtain rfl : k = xs.length := by omega
        go_wp2
        go_ret
        exact RBn.mk (belReflN _ _ _) (by simp; exact take_eq_all hT.out rfl hL.out)
  · have hlb : ((xs.length : Int) != (ys.length : Int)) = true := by simp; omega
    have hL := Lib.hid hl; clear hl
    go_enter Try.func30, Try.ntmps30
    go_wp2
    go_ret
    exact RBn.mk (Below.refl _ _) (by simp; exact fun he => hL.out (by rw [he]))
theorem rowAt {w : World} {a : Option Addr} {n c : Nat} {x : List (List Int)} (h : IntSS S w (.slice a n c) x) {k : Nat} (hk : k < x.length) : ∃ (b o : Nat) (v : Value), a = some ⟨b, o, none⟩ ∧ w.cell? ⟨b, o + k, none⟩ = some v ∧ Ints S w v x[k] := by
  obtain ⟨vs, h1, h2, h3⟩ := h
  obtain ⟨b, o, e, hc⟩ := Fl.at h1 (i := k) (by omega)
  refine ⟨b, o, _, e, hc, ?_⟩
  have := h3 k hk
  rwa [show vs.getD k undef = vs[k] by simp [List.getD, show k < vs.length by omega]] at this
theorem dfa_ext {A B : DfaD} (h1 : A.1 = B.1) (h2 : A.2 = B.2) : A = B := by cases A; cases B; cases h1; cases h2; rfl
set_option maxHeartbeats 1600000 in
theorem sameDfa_c (vn ve un ue : Value) (A B : DfaD) (w : World) (h : DfaR S w vn ve A) (h' : DfaR T w un ue B) : Calls Try.prog 25 #[.agg #[vn, ve], .agg #[un, ue]] w (RBn w (A = B)) := by
  obtain ⟨a, c, b, d, rfl, rfl, hn, hm⟩ := h.shapes
  obtain ⟨a', c', b', d', rfl, rfl, hn', hm'⟩ := h'.shapes
  obtain ⟨W, hW⟩ : ∃ W, W = (w.alloc (.cells #[.slice a A.1.length c, .slice b A.2.length d] 26)).alloc (.cells #[.slice a' B.1.length c', .slice b' B.2.length d'] 26) := ⟨_, rfl⟩
  have Hb0 : Hid (Below w.heap.size w W) := by rw [hW]; exact ((Below.refl _ _).alloc (Nat.le_refl _) _).alloc (by simp) _
  have K0 : Hid (W.heap[w.heap.size]? = some (.cells #[.slice a A.1.length c, .slice b A.2.length d] 26 (0, 0))) := by rw [hW]; exact blkOld (blkNew _ _ rfl)
  have K1 : Hid (W.heap[w.heap.size + 1]? = some (.cells #[.slice a' B.1.length c', .slice b' B.2.length d'] 26 (0, 0))) := by rw [hW]; exact blkNew _ _ (by simp)
  have H := Lib.hid (h.stay (kpB Hb0.out)); clear h
  have H' := Lib.hid (h'.stay (kpB Hb0.out)); clear h'
  have HW := Lib.hid hW; clear hW
  by_cases hl : A.1.length = B.1.length
  · have hlb : ((A.1.length : Int) != (B.1.length : Int)) = false := by simp [hl]
    have hL := Lib.hid hl; clear hl
    go_enter Try.func25, Try.ntmps25
    go_wp2_with fail
    rw [← HW.out]
    clear HW
    go_loopw [5] (fun i wr => ∃ k : Nat, k ≤ A.1.length ∧ i = .int .i64 k ∧ Hid (A.1.take k = B.1.take k) ∧ Hid (Below W.heap.size W wr)) (fun i _ => A.1.length - (intOf i).toNat)
    case atStart => exact ⟨0, by omega, rfl, by simp [Hid], Lib.hid (Below.refl _ _)⟩
    case round =>
      obtain ⟨k, hk, rfl, hT, hb⟩ := hrel
      obtain ⟨c0, c1, _, _⟩ := blk2 (blkBel hb.out K0.out)
      obtain ⟨d0, d1, _, _⟩ := blk2 (blkBel hb.out K1.out)
      have hbw := Lib.hid (Hb0.out.trans (hb.out.mono Hb0.out.size))
      by_cases hlt : k < A.1.length
      · have hlt2 : k < B.1.length := by have := hL.out; omega
        obtain ⟨ba, oa, va, rfl, hca, hva⟩ := rowAt (H.out.1.stay (kpB hb.out)) hlt
        obtain ⟨bb, ob, vb, rfl, hcb, hvb⟩ := rowAt (H'.out.1.stay (kpB hb.out)) hlt2
        obtain ⟨a1, c1', rfl, hn1⟩ := hva.shape
        obtain ⟨b1, d1', rfl, _⟩ := hvb.shape
        have hS := Lib.hid (fun he => take_eq_succ hT.out hlt hlt2 he)
        have hN := Lib.hid (fun (he : A = B) => show A.1[k] = B.1[k] by subst he; rfl)
        have HV1 := Lib.hid hva; clear hva
        have HU1 := Lib.hid hvb; clear hvb
        have hkI : (k : Int) < (A.1.length : Int) := by omega
        have hkI2 : (k : Int) < (B.1.length : Int) := by omega
        go_wp2_with fail
        go_still_tail 10, (by kernel_rfl)
        change wpList _ _ _ _ _ wr.drew
        have hb2 : Hid (Below W.heap.size W wr.drew) := hb.out.drew
        have HV2 : Hid (Ints S wr.drew _ _) := HV1.out
        have HU2 : Hid (Ints T wr.drew _ _) := HU1.out
        clear HV1 HU1 hb hbw c0 c1 d0 d1 hca hcb
        generalize wr.drew = w2 at *
        go_wp2_with fail
        refine (sameInts_c _ _ _ _ _ HV2.out HU2.out).mono ?_
        rintro e w3 ⟨b3, rfl, hb3, hp⟩
        have hb4 := Lib.hid (hb2.out.trans (hb3.mono hb2.out.size))
        cases b3
        · go_wp2
          go_ret
          exact RBn.mk (Hb0.out.trans (hb4.out.mono Hb0.out.size)) (by simp; exact fun he => by have := hp.out.2 (hN.out he); cases this)
        · have hT2 := Lib.hid (hS.out (hp.out.1 rfl))
          clear hp
          go_wp2
          go_roundw
          case rel => exact ⟨k + 1, by omega, by go_num, hT2, hb4⟩
          case measure => simp [intOf]; omega
      · obtain rfl : k = A.1.length := by omega
        have hE := Lib.hid (take_eq_all hT.out rfl hL.out)
        go_wp2_with fail
        refine (sameFlags_c _ _ A.2 B.2 wr (H.out.2.stay (kpB hb.out)) (H'.out.2.stay (kpB hb.out))).mono ?_
        rintro e w2 ⟨b2, rfl, hb2, hi⟩
        go_wp2
        go_ret
        exact RBn.mk (hbw.out.trans (hb2.mono hbw.out.size)) (hi.out.trans ⟨fun he => dfa_ext hE.out he, fun he => by rw [he]⟩)
  · have hlb : ((A.1.length : Int) != (B.1.length : Int)) = true := by simp; omega
    have hL := Lib.hid hl; clear hl
    go_enter Try.func25, Try.ntmps25
    go_wp2
    rw [← HW.out]
    go_ret
    exact RBn.mk Hb0.out (by simp; exact fun he => hL.out (by rw [he]))
end Go.Proofs.Ytebcnamfpajneaa
