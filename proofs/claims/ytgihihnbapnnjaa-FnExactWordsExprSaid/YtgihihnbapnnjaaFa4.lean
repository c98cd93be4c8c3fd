/- Marks of automata. -/
import Derived.Test.YtgihihnbapnnjaaFa2
import Derived.Test.YtgihihnbapnnjaaFa3
import Derived.Test.YtgihihnbapnnjaaEqf
namespace Go.Proofs.Ytgihihnbapnnjaa
open Go.RowKit
set_option maxRecDepth 100000
variable {S T : Nat → Prop}
/-- Blocks outside S stay as they are. -/
structure Fr (S : Nat → Prop) (w w' : World) : Prop where
  os : w'.os = w.os
  tape : w'.tape = w.tape
  output : w'.output = w.output
  size : w.heap.size ≤ w'.heap.size
  block : ∀ b, b < w.heap.size → ¬ S b → w'.heap[b]? = w.heap[b]?
theorem Fr.refl (w : World) : Fr S w w := ⟨rfl, rfl, rfl, Nat.le_refl _, fun _ _ _ => rfl⟩
theorem Fr.trans {a b c : World} (h : Fr S a b) (k : Fr S b c) : Fr S a c :=
  ⟨k.os.trans h.os, k.tape.trans h.tape, k.output.trans h.output, Nat.le_trans h.size k.size, fun i hi hs => (k.block i (Nat.lt_of_lt_of_le hi h.size) hs).trans (h.block i hi hs)⟩
theorem Fr.grown {w w' : World} {row : Option Nat} (h : w.grownBy w' row) (hr : ∀ b, row = some b → S b) : Fr S w w' :=
  ⟨h.os, h.tape, h.output, h.size, fun b hb hs => h.block b hb (fun e => hs (hr b e.symm))⟩
theorem Fr.bel {w w' : World} (h : Below w.heap.size w w') : Fr S w w' := ⟨h.os, h.tape, h.output, h.size, fun b hb _ => h.block b hb⟩
theorem Fr.low {w w' : World} {B : Nat} (h : Fr S w w') (hS : ∀ b, S b → B ≤ b) (hB : B ≤ w.heap.size) : Below B w w' :=
  ⟨h.os, h.tape, h.output, h.size, fun b hb => h.block b (by omega) (fun hs => by have := hS b hs; omega)⟩
theorem Fr.ks {w w' : World} (h : Fr S w w') : Ks (fun b => ¬ S b) w w' := fun b hs hb => h.block b hb hs
theorem Fr.mono {w w' : World} (h : Fr S w w') (k : ∀ b, S b → T b) : Fr T w w' := ⟨h.os, h.tape, h.output, h.size, fun b hb hs => h.block b hb (fun h => hs (k b h))⟩
/-- The call answers a slice of n elements, in new memory that may be written. -/
def RW (n : Nat) (cs : List Value) (w : World) (e : Ending) (w' : World) : Prop := ∃ v, e = .returned v ∧ Below w.heap.size w w' ∧ Hid (FlW (w.heap.size ≤ ·) w' v n cs)
/-- The first m elements turned. -/
def mkL {α : Type} (xs : List α) (f : Nat → α) (m : Nat) : List α := (List.range m).map f ++ xs.drop m
theorem mkL_zero {α : Type} (xs : List α) (f : Nat → α) : mkL xs f 0 = xs := by simp [mkL]
theorem mkL_len {α : Type} (xs : List α) (f : Nat → α) {m : Nat} (h : m ≤ xs.length) : (mkL xs f m).length = xs.length := by simp [mkL]; omega
theorem mkL_get {α : Type} (xs : List α) (f : Nat → α) {m : Nat} (h : m < xs.length) : (mkL xs f m)[m]'(by rw [mkL_len _ _ (by omega)]; exact h) = xs[m] := by
  unfold mkL
  rw [List.getElem_append_right (by simp)]
  simp
theorem mkL_set {α : Type} (xs : List α) (f : Nat → α) {m : Nat} (h : m < xs.length) : (mkL xs f m).set m (f m) = mkL xs f (m + 1) := by
  unfold mkL
  rw [List.set_append_right _ _ (by simp), List.length_map, List.length_range, Nat.sub_self, List.drop_eq_getElem_cons h, List.set_cons_zero, List.range_succ, List.map_append, List.append_assoc]
  rfl
theorem mkL_all {α : Type} (xs : List α) (f : Nat → α) : mkL xs f xs.length = (List.range xs.length).map f := by simp [mkL]
/-- A row marked. -/
def mrow (k : Int) (n : Nat) : List Int := (List.range n).map fun t : Nat => k + t
theorem mrow_len (k : Int) (n : Nat) : (mrow k n).length = n := by simp [mrow]
def tot (xss : List (List Int)) : Nat := (xss.map List.length).sum
theorem tot_take (xss : List (List Int)) {j : Nat} (h : j < xss.length) : tot (xss.take (j + 1)) = tot (xss.take j) + xss[j].length := by
  unfold tot
  rw [List.take_succ_eq_append_getElem h, List.map_append, List.sum_append]; simp
theorem tot_le (xss : List (List Int)) (j : Nat) : tot (xss.take j) ≤ tot xss := by
  have h : tot xss = tot (xss.take j) + tot (xss.drop j) := by
    unfold tot
    rw [← List.sum_append, ← List.map_append, List.take_append_drop]
  omega
theorem tot_small {xss : List (List Int)} (h : smallSS xss) : tot xss ≤ 1099511627776 := by
  have key : ∀ (ys : List (List Int)), (∀ r ∈ ys, r.length ≤ 1048576) → tot ys ≤ ys.length * 1048576 := by
    intro ys
    induction ys with
    | nil => intro _; simp [tot]
    | cons a t ih =>
      intro hh
      have h1 := ih (fun r hr => hh r (List.mem_cons_of_mem _ hr))
      have h2 := hh a (List.mem_cons_self ..)
      unfold tot at h1 ⊢
      simp only [List.map_cons, List.sum_cons, List.length_cons]
      omega
  have := key xss h.2
  have := h.1
  omega
/-- The rows marked, one behind the other. -/
def mrows (k : Int) (xss : List (List Int)) (i : Nat) : List Int := mrow (k + tot (xss.take i)) (xss.getD i []).length
def mks (k : Int) (xss : List (List Int)) : List (List Int) := (List.range xss.length).map (mrows k xss)
theorem mks_len (k : Int) (xss : List (List Int)) : (mks k xss).length = xss.length := by simp [mks]
theorem mrows_eq (k : Int) (xss : List (List Int)) {i : Nat} (h : i < xss.length) : mrows k xss i = mrow (k + tot (xss.take i)) xss[i].length := by
  unfold mrows
  rw [List.getD_eq_getElem?_getD, List.getElem?_eq_getElem h]; rfl
theorem mks_get (k : Int) (xss : List (List Int)) {i : Nat} (h : i < xss.length) : (mks k xss)[i]'(by rw [mks_len]; exact h) = mrow (k + tot (xss.take i)) xss[i].length := by
  unfold mks
  rw [List.getElem_map, List.getElem_range, mrows_eq k xss h]
def bmk (k : Int) : Bool := k % 3 == 0
def mkDfa (k : Int) (D : DfaD) : DfaD := (mks k D.1, (List.range D.2.length).map fun t : Nat => bmk (k + tot D.1 + t))
/-- One row of a writable slice of rows. -/
theorem IntSSW.row {w : World} {a : Option Addr} {n cap : Nat} {xss : List (List Int)} (h : IntSSW S w (.slice a n cap) xss) {j : Nat} (hj : j < xss.length) :
    ∃ b off u g, a = some ⟨b, off, none⟩ ∧ w.cell? ⟨b, off + j, none⟩ = some u ∧ S g ∧ FlW (· = g) w u xss[j].length (xss[j].map (.int .i64 ·)) ∧
      ∀ w' r, r.length = xss[j].length → Fr (· = g) w w' → FlW (· = g) w' u r.length (r.map (.int .i64 ·)) → IntSSW S w' (.slice a n cap) (xss.set j r) := by
  obtain ⟨o, g, vs, hS, h1, h2, h3⟩ := h
  obtain ⟨b, off, e, hb, hc, _⟩ := h1.at (i := j) (by simpa using hj)
  rw [List.getElem_map, List.getElem_range] at hc
  refine ⟨b, off, _, g j, e, hc, (h2 j hj).1, (h2 j hj).2.2, fun w' r hr hF hW => ?_⟩
  refine ⟨o, g, vs, hS, ?_, ?_, ?_⟩
  · rw [List.length_set]
    exact h1.stay (hF.ks.mono fun b e => by subst e; exact fun e => (h2 j hj).2.1 e.symm)
  · intro i hi
    rw [List.length_set] at hi
    refine ⟨(h2 i hi).1, (h2 i hi).2.1, ?_⟩
    by_cases hij : i = j
    · subst hij
      simp only [List.getElem_set_self]
      exact hW
    · rw [List.getElem_set_ne (Ne.symm hij)]
      refine (h2 i hi).2.2.stay (hF.ks.mono fun b e => ?_)
      subst e
      rcases Nat.lt_or_gt_of_ne hij with h | h
      · exact h3 i j h hj
      · exact fun e => h3 j i h hi e.symm
  · rw [List.length_set]; exact h3
set_option maxHeartbeats 400000 in
theorem markIntS_f (v : Value) (n : Nat) (cs : List Value) (k : Int) (w : World) (h : FlW S w v n cs) (hl : cs.length = n) (hk : 0 ≤ k ∧ k ≤ 4000000000000) (hn : n ≤ 1000000000000) :
    Calls Try.prog 22 #[v, .int .i64 k] w fun e w' => e = .returned (.int .i64 (k + n)) ∧ Hid (Fr S w w') ∧ Hid (FlW S w' v n ((List.range (n)).map fun t : Nat => .int .i64 (k + t))) := by
  obtain ⟨a, cap, rfl, _⟩ := h.shape
  have H := Lib.hid h; clear h
  have Hl := Lib.hid hl; clear hl
  obtain ⟨hk0, hk1⟩ := hk
  go_enter Try.func22, Try.ntmps22
  go_wp2
  go_loopw [1, 5] (fun x i wr => ∃ j : Nat, j ≤ n ∧ i = .int .i64 j ∧ x = .int .i64 (k + j) ∧ Hid (Fr S w wr) ∧ Hid (FlW S wr (.slice a n cap) n (mkd cs (fun t : Nat => .int .i64 (k + t)) (j)))) (fun _ i _ => n - (intOf i).toNat)
  case atStart => exact ⟨0, by omega, rfl, by simp, Fr.refl _, by rw [mkd_zero]; exact H⟩
  case round =>
    obtain ⟨j, hj, rfl, rfl, hg, hr⟩ := hrel
    by_cases hlt : j < n
    · have hlen := mkd_length cs (fun t : Nat => .int .i64 (k + t)) (j) (by rw [Hl.out]; omega)
      obtain ⟨b, off, rfl, hbS, c0, f0⟩ := hr.out.at (i := j) (by rw [hlen, Hl.out]; omega)
      have hs0 := hr.out.set (j) (.int .i64 (k + j)) (by rw [hlen, Hl.out]; omega)
      have e0 := mkd_set cs (fun t : Nat => .int .i64 (k + t)) (j) (by rw [Hl.out]; omega)
      rw [e0] at hs0
      obtain ⟨u0, d0⟩ : ∃ u, wr.cell? ⟨b, off + j, none⟩ = some u := ⟨_, c0⟩
      have g0 := f0 (off + j)
      have Hs := Lib.hid hs0
      have hG : Hid (Fr S w (wr.setCell ⟨b, off + j, none⟩ (.int .i64 (k + j)))) := (Fr.trans hg.out (Fr.grown (grownSet _ _ _ _) (fun x e => by injection e with e; exact e ▸ hbS)))
      clear c0 hs0 e0 hlen hr f0 hg H hbS
      go_wp2
      go_roundw
      case rel => exact ⟨j + 1, by omega, by go_num, by rw [show k + (j : Int) + 1 = k + ((j + 1 : Nat) : Int) by omega], hG, Hs⟩
      case measure => simp [intOf]; omega
    · obtain rfl : j = n := by omega
      go_wp2
      go_ret
      refine ⟨rfl, hg, ?_⟩
      rw [← mkd_all cs _ _ Hl.out]
      exact hr
set_option maxHeartbeats 400000 in
theorem markPartS_f (v : Value) (n : Nat) (cs : List Value) (k : Int) (w : World) (h : FlW S w v n cs) (hl : cs.length = 2 * n) (hk : 0 ≤ k ∧ k ≤ 4000000000000) (hn : n ≤ 1000000000000) :
    Calls Try.prog 21 #[v, .int .i64 k] w fun e w' => e = .returned (.int .i64 (k + 2 * n)) ∧ Hid (Fr S w w') ∧ Hid (FlW S w' v n ((List.range (2 * n)).map fun t : Nat => .int .i64 (k + t))) := by
  obtain ⟨a, cap, rfl, _⟩ := h.shape
  have H := Lib.hid h; clear h
  have Hl := Lib.hid hl; clear hl
  obtain ⟨hk0, hk1⟩ := hk
  go_enter Try.func21, Try.ntmps21
  go_wp2
  go_loopw [1, 5] (fun x i wr => ∃ j : Nat, j ≤ n ∧ i = .int .i64 j ∧ x = .int .i64 (k + 2 * j) ∧ Hid (Fr S w wr) ∧ Hid (FlW S wr (.slice a n cap) n (mkd cs (fun t : Nat => .int .i64 (k + t)) (2 * j)))) (fun _ i _ => n - (intOf i).toNat)
  case atStart => exact ⟨0, by omega, rfl, by simp, Fr.refl _, by rw [mkd_zero]; exact H⟩
  case round =>
    obtain ⟨j, hj, rfl, rfl, hg, hr⟩ := hrel
    by_cases hlt : j < n
    · have hlen := mkd_length cs (fun t : Nat => .int .i64 (k + t)) (2 * j) (by rw [Hl.out]; omega)
      obtain ⟨b, off, rfl, hbS, c0, f0⟩ := hr.out.at (i := j * 2) (by rw [hlen, Hl.out]; omega)
      obtain ⟨b', off', e, _, c1, _⟩ := hr.out.at (i := j * 2 + 1) (by rw [hlen, Hl.out]; omega)
      cases e
      have hs0 := hr.out.set (2 * j) (.int .i64 (k + 2 * j)) (by rw [hlen, Hl.out]; omega)
      have e0 := mkd_set cs (fun t : Nat => .int .i64 (k + t)) (2 * j) (by rw [Hl.out]; omega)
      rw [show k + ((2 * j : Nat) : Int) = k + 2 * (j : Int) by omega] at e0
      rw [e0] at hs0
      have hlen1 := mkd_length cs (fun t : Nat => .int .i64 (k + t)) (2 * j + 1) (by rw [Hl.out]; omega)
      have hs1 := hs0.set (2 * j + 1) (.int .i64 (k + 2 * j + 1)) (by rw [hlen1, Hl.out]; omega)
      have e1 := mkd_set cs (fun t : Nat => .int .i64 (k + t)) (2 * j + 1) (by rw [Hl.out]; omega)
      rw [show k + ((2 * j + 1 : Nat) : Int) = k + 2 * (j : Int) + 1 by omega] at e1
      rw [e1] at hs1
      obtain ⟨u0, d0⟩ : ∃ u, wr.cell? ⟨b, off + j * 2, none⟩ = some u := ⟨_, c0⟩
      have g0 := f0 (off + j * 2)
      obtain ⟨u1, d1⟩ : ∃ u, wr.cell? ⟨b, off + j * 2 + 1, none⟩ = some u := ⟨_, c1⟩
      have g1 := f0 (off + j * 2 + 1)
      have Hs := Lib.hid hs1
      rw [show off + 2 * j = off + j * 2 by omega, show off + (2 * j + 1) = off + j * 2 + 1 by omega] at Hs
      have hG : Hid (Fr S w ((wr.setCell ⟨b, off + j * 2, none⟩ (.int .i64 (k + 2 * j))).setCell ⟨b, off + j * 2 + 1, none⟩ (.int .i64 (k + 2 * j + 1)))) := (Fr.trans (Fr.trans hg.out (Fr.grown (grownSet _ _ _ _) (fun x e => by injection e with e; exact e ▸ hbS))) (Fr.grown (grownSet _ _ _ _) (fun x e => by injection e with e; exact e ▸ hbS)))
      clear c0 hs0 e0 c1 hs1 e1 hlen1 hlen hr f0 hg H hbS
      go_wp2
      go_roundw
      case rel => exact ⟨j + 1, by omega, by go_num, by rw [show k + 2 * (j : Int) + 1 + 1 = k + 2 * ((j + 1 : Nat) : Int) by omega], hG, Hs⟩
      case measure => simp [intOf]; omega
    · obtain rfl : j = n := by omega
      go_wp2
      go_ret
      refine ⟨rfl, hg, ?_⟩
      rw [← mkd_all cs _ _ Hl.out]
      exact hr
set_option maxHeartbeats 400000 in
theorem markIntSS_f (v : Value) (xss : List (List Int)) (k : Int) (w : World) (h : IntSSW S w v xss) (hk : 0 ≤ k ∧ k ≤ 2000000000000) (hn : tot xss ≤ 2000000000000) (hr : ∀ r ∈ xss, r.length ≤ 1000000000000) :
    Calls Try.prog 98 #[v, .int .i64 k] w fun e w' => e = .returned (.int .i64 (k + tot xss)) ∧ Hid (Fr S w w') ∧ Hid (IntSSW S w' v (mks k xss)) := by
  obtain ⟨a, cap, rfl, _⟩ := h.rd.shape
  have H := Lib.hid h; clear h
  have HR := Lib.hid hr; clear hr
  obtain ⟨hk0, hk1⟩ := hk
  go_enter Try.func98, Try.ntmps98
  go_wp2
  go_loopw [1, 5] (fun x i wr => ∃ j : Nat, j ≤ xss.length ∧ i = .int .i64 j ∧ x = .int .i64 (k + tot (xss.take j)) ∧ Hid (Fr S w wr) ∧ Hid (IntSSW S wr (.slice a xss.length cap) (mkL xss (mrows k xss) j))) (fun _ i _ => xss.length - (intOf i).toNat)
  case atStart => exact ⟨0, by omega, rfl, by simp [tot], Fr.refl _, by rw [mkL_zero]; exact H⟩
  case round =>
    clear H
    obtain ⟨j, hj, rfl, rfl, hg, hr⟩ := hrel
    by_cases hlt : j < xss.length
    · have hjm : j < (mkL xss (mrows k xss) j).length := by rw [mkL_len _ _ (by omega)]; exact hlt
      obtain ⟨b, off, u, g, rfl, hc, hS, hW, hset⟩ := hr.out.row hjm
      have hget := mkL_get xss (mrows k xss) hlt
      have Htt := Lib.hid (tot_take xss hlt)
      have hjI : (j : Int) < (xss.length : Int) := by omega
      have hrl := HR.out _ (List.getElem_mem hlt)
      have htl := tot_le xss j
      have Hst := Lib.hid (mkL_set xss (mrows k xss) hlt)
      rw [mrows_eq k xss hlt] at Hst
      rw [hget] at hW hset
      have HW := Lib.hid hW
      have HSet := Lib.hid hset
      clear hW hset hget hjm hr
      obtain ⟨t, ht⟩ : ∃ t, t = tot (xss.take j) := ⟨_, rfl⟩
      obtain ⟨r, hr⟩ : ∃ r, r = xss[j] := ⟨_, rfl⟩
      rw [← ht] at Htt Hst htl ⊢
      rw [← hr] at Htt Hst hrl HW HSet
      clear ht hr
      go_wp2_with fail
      refine (markIntS_f (S := (· = g)) u r.length _ (k + (t : Int)) wr HW.out (by simp) (by omega) hrl).mono ?_
      rintro e w2 ⟨rfl, hF, hM⟩
      have hg2 : Hid (Fr S w w2) := hg.out.trans (hF.out.mono (fun b e => by subst e; exact hS))
      have hr2 : Hid (IntSSW S w2 (.slice (some ⟨b, off, none⟩) xss.length cap) (mkL xss (mrows k xss) (j + 1))) := by
        have := HSet.out w2 (mrow (k + (t : Int)) r.length) (mrow_len _ _) hF.out (by
          rw [mrow_len]
          have := hM.out
          unfold mrow
          rw [List.map_map]
          exact this)
        rw [Hst.out] at this
        exact this
      clear HSet HW Hst hF hM hg
      go_wp2
      go_roundw
      case rel => exact ⟨j + 1, by omega, by go_num, by rw [Htt.out]; congr 1; omega, hg2, hr2⟩
      case measure => simp [intOf]; omega
    · obtain rfl : j = xss.length := by omega
      rw [List.take_length]
      rw [mkL_all] at hr
      go_wp2
      go_ret
      exact ⟨rfl, hg, hr⟩
set_option maxHeartbeats 400000 in
theorem markBoolS_f (v : Value) (n : Nat) (cs : List Value) (k : Int) (w : World) (h : FlW S w v n cs) (hl : cs.length = n) (hk : 0 ≤ k ∧ k ≤ 4000000000000) (hn : n ≤ 1000000000000) :
    Calls Try.prog 99 #[v, .int .i64 k] w fun e w' => e = .returned (.int .i64 (k + n)) ∧ Hid (Fr S w w') ∧ Hid (FlW S w' v n ((List.range (n)).map fun t : Nat => .bool (bmk (k + t)))) := by
  obtain ⟨a, cap, rfl, _⟩ := h.shape
  have H := Lib.hid h; clear h
  have Hl := Lib.hid hl; clear hl
  obtain ⟨hk0, hk1⟩ := hk
  go_enter Try.func99, Try.ntmps99
  go_wp2
  go_loopw [1, 5] (fun x i wr => ∃ j : Nat, j ≤ n ∧ i = .int .i64 j ∧ x = .int .i64 (k + j) ∧ Hid (Fr S w wr) ∧ Hid (FlW S wr (.slice a n cap) n (mkd cs (fun t : Nat => .bool (bmk (k + t))) (j)))) (fun _ i _ => n - (intOf i).toNat)
  case atStart => exact ⟨0, by omega, rfl, by simp, Fr.refl _, by rw [mkd_zero]; exact H⟩
  case round =>
    obtain ⟨j, hj, rfl, rfl, hg, hr⟩ := hrel
    by_cases hlt : j < n
    · have hlen := mkd_length cs (fun t : Nat => .bool (bmk (k + t))) (j) (by rw [Hl.out]; omega)
      obtain ⟨b, off, rfl, hbg, c0, f0⟩ := hr.out.at (i := j) (by rw [hlen, Hl.out]; omega)
      have hs0 := hr.out.set (j) (.bool (bmk (k + j))) (by rw [hlen, Hl.out]; omega)
      have e0 := mkd_set cs (fun t : Nat => .bool (bmk (k + t))) (j) (by rw [Hl.out]; omega)
      rw [e0] at hs0
      obtain ⟨u0, d0⟩ : ∃ u, wr.cell? ⟨b, off + j, none⟩ = some u := ⟨_, c0⟩
      have g0 := f0 (off + j)
      have Hs := Lib.hid hs0
      have hG : Hid (Fr S w (wr.setCell ⟨b, off + j, none⟩ (.bool (bmk (k + j))))) := hg.out.trans (Fr.grown (grownSet _ _ _ _) (fun x e => by injection e with e; exact e ▸ hbg))
      clear c0 hs0 e0 hlen hr f0 hg H hbg
      go_wp2
      go_roundw
      case rel => exact ⟨j + 1, by omega, by go_num, by rw [show k + (j : Int) + 1 = k + ((j + 1 : Nat) : Int) by omega], by simpa only [bmk] using hG, by simpa only [bmk] using Hs⟩
      case measure => simp [intOf]; omega
    · obtain rfl : j = n := by omega
      go_wp2
      go_ret
      refine ⟨rfl, hg, ?_⟩
      rw [← mkd_all cs _ _ Hl.out]
      exact hr
set_option maxHeartbeats 400000 in
theorem markDfa_f (vn ve : Value) (D : DfaD) (k : Int) (w : World) (h : DfaW S w vn ve D) (hSb : ∀ b, S b → b < w.heap.size) (hk : 0 ≤ k ∧ k ≤ 2000000000000) (hs : smallD D) :
    Calls Try.prog 47 #[.agg #[vn, ve], .int .i64 k] w fun e w' => e = .returned (.int .i64 (k + tot D.1 + D.2.length)) ∧ Hid (Fr S w w') ∧ Hid (DfaW S w' vn ve (mkDfa k D)) := by
  obtain ⟨q, hS, h1, h2⟩ := h
  obtain ⟨a, ca, rfl, _⟩ := h1.rd.shape
  obtain ⟨b, d, rfl, _⟩ := h2.shape
  have ht := tot_small hs.1
  have hl2 := hs.2
  have HS := Lib.hid hs
  have HSb := Lib.hid hSb
  clear hs hSb
  obtain ⟨hk0, hk1⟩ := hk
  obtain ⟨W, hW⟩ : ∃ W, W = w.alloc (.cells #[.slice a D.1.length ca, .slice b D.2.length d] 62) := ⟨_, rfl⟩
  have hb0 : Below w.heap.size w W := by rw [hW]; exact (Below.refl _ _).alloc (Nat.le_refl _) _
  have K0 : Hid (W.heap[w.heap.size]? = some (.cells #[.slice a D.1.length ca, .slice b D.2.length d] 62 (0, 0))) := by rw [hW]; exact blkNew _ _ rfl
  have H1 := Lib.hid (h1.stay (ksB hb0))
  have H2 := Lib.hid (h2.stay (ksB hb0))
  have HF0 : Hid (Fr S w W) := Fr.bel hb0
  have HW := Lib.hid hW
  have hqS := Lib.hid hS
  clear h1 h2 hW hS
  obtain ⟨t, htt⟩ : ∃ t, t = tot D.1 := ⟨_, rfl⟩
  have Hc := markIntSS_f (S := fun b => S b ∧ b ≠ q) _ D.1 k W H1.out ⟨hk0, hk1⟩ (by omega) (fun r hr => by have := HS.out.1.2 r hr; omega)
  rw [← htt] at Hc ht ⊢
  have HC := Lib.hid Hc
  have Htt := Lib.hid htt
  clear Hc htt
  obtain ⟨c0, c1, _, _⟩ := blk2 K0.out
  rw [HW.out] at c0 c1
  go_enter Try.func47, Try.ntmps47
  go_wp2_with fail
  clear c0 c1
  rw [← HW.out]
  refine HC.out.mono ?_
  rintro e w2 ⟨rfl, hF, hM⟩
  have K2 : Hid (w2.heap[w.heap.size]? = some (.cells #[.slice a D.1.length ca, .slice b D.2.length d] 62 (0, 0))) := by
    rw [← K0.out]
    exact hF.out.block _ (Array.getElem?_eq_some_iff.1 K0.out).1 (fun h => by have := HSb.out _ h.1; omega)
  have H2' := Lib.hid (H2.out.stay (hF.out.ks.mono fun b e => by subst e; exact fun h => h.2 rfl))
  have HF2 := Lib.hid (HF0.out.trans (hF.out.mono fun b h => h.1))
  clear H2 K0 HC HF0 hF H1
  obtain ⟨c0, c1, _, _⟩ := blk2 K2.out
  go_wp2_with fail
  clear c0 c1
  refine (markBoolS_f (S := (· = q)) _ D.2.length _ (k + (t : Int)) w2 H2'.out (by simp) (by omega) (by omega)).mono ?_
  rintro e w3 ⟨rfl, hF3, hM3⟩
  go_wp2
  go_ret
  refine ⟨rfl, HF2.out.trans (hF3.out.mono fun b e => by subst e; exact hqS.out), q, hqS.out, hM.out.stay (hF3.out.ks.mono fun b h => h.2), ?_⟩
  have := hM3.out
  unfold mkDfa
  rw [← Htt.out, List.map_map, List.length_map, List.length_range]
  exact this
end Go.Proofs.Ytgihihnbapnnjaa
