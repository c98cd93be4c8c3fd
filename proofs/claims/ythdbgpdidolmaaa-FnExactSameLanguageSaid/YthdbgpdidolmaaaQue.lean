/- A queue: a slice of the call's own whose front is cut off, and to whose end is appended. Elements of one cell, at most 10^9. -/
import Derived.Test.YthdbgpdidolmaaaApp
import Derived.Deep.AppendSrc
namespace Go.Proofs.Ythdbgpdidolmaaa
open Go.RowKit
set_option maxRecDepth 100000
/-- The queue v has the n cells xs, in a block from base on. -/
def QS (base : Nat) (w : World) (v : Value) (n : Nat) (xs : List Value) : Prop :=
  ∃ ao g off cap, v = .slice ao n cap ∧ xs.length = n ∧ n ≤ cap ∧ cap ≤ maxLen ∧ (0 < cap → ao = some ⟨g, off, none⟩ ∧ base ≤ g ∧ g < w.heap.size) ∧ (0 < cap → ∀ o, w.frozen? ⟨g, o, none⟩ = false) ∧
    (∀ j u, xs[j]? = some u → w.cell? ⟨g, off + j, none⟩ = some u) ∧ ∀ j, j < cap → (w.cell? ⟨g, off + j, none⟩).isSome = true
section
variable {base : Nat} {w w' : World} {v : Value} {n : Nat} {xs : List Value}
theorem QS.stay (h : QS base w v n xs) (hs : w.heap.size ≤ w'.heap.size) (hk : ∀ k, base ≤ k → k < w.heap.size → w'.heap[k]? = w.heap[k]?) : QS base w' v n xs := by
  obtain ⟨ao, g, off, cap, rfl, hl, hn, hm, ha, hf, hc, hi⟩ := h
  rcases Nat.eq_zero_or_pos cap with h0 | h0
  · have hx : xs = [] := List.eq_nil_of_length_eq_zero (by omega)
    subst hx
    exact ⟨ao, g, off, cap, rfl, hl, hn, hm, fun h => by omega, fun h => by omega, fun j u hj => by simp at hj, fun j hj => by omega⟩
  · obtain ⟨ha1, ha2, ha3⟩ := ha h0
    have hb := hk g ha2 ha3
    exact ⟨ao, g, off, cap, rfl, hl, hn, hm, fun _ => ⟨ha1, ha2, by omega⟩, fun _ o => by rw [World.frozen?_of_block hb]; exact hf h0 o, fun j u hj => by rw [World.cell?_of_block hb]; exact hc j u hj, fun j hj => by rw [World.cell?_of_block hb]; exact hi j hj⟩
theorem QS.bel (h : QS base w v n xs) (hb : Below w.heap.size w w') : QS base w' v n xs := h.stay hb.size (fun k _ hk => hb.block k hk)
/-- A cell below base was written. -/
theorem QS.far (h : QS base w v n xs) {b o : Nat} (hb : b < base) (u : Value) : QS base (w.setCell ⟨b, o, none⟩ u) v n xs :=
  h.stay (by simp [World.setCell]) (fun k hk _ => Below.heap_setCell _ _ _ _ (by show k ≠ b; omega))
theorem QS.shape (h : QS base w v n xs) : ∃ ao cap, v = .slice ao n cap ∧ n ≤ 9223372036854775807 := by
  obtain ⟨ao, g, off, cap, rfl, hl, hn, hm, _⟩ := h
  exact ⟨ao, cap, rfl, by unfold maxLen at hm; omega⟩
/-- The front, and the rest. -/
theorem QS.front {x : Value} (h : QS base w v (n + 1) (x :: xs)) : ∃ g off cap, v = .slice (some ⟨g, off, none⟩) (n + 1) (cap + 1) ∧ n ≤ cap ∧ cap + 1 ≤ 9223372036854775807 ∧ w.cell? ⟨g, off, none⟩ = some x ∧
    (cap = 0 → QS base w (.slice (some ⟨g, off, none⟩) 0 0) n xs) ∧ (0 < cap → QS base w (.slice (some ⟨g, off + 1, none⟩) n cap) n xs) := by
  obtain ⟨ao, g, off, cap, rfl, hl, hn, hm, ha, hf, hc, hi⟩ := h
  obtain ⟨c, rfl⟩ : ∃ c, cap = c + 1 := ⟨cap - 1, by omega⟩
  obtain ⟨rfl, ha2, ha3⟩ := ha (by omega)
  have hl' : xs.length = n := by simpa using hl
  refine ⟨g, off, c, rfl, by omega, by unfold maxLen at hm; omega, by simpa using hc 0 x rfl, fun h0 => ?_, fun h0 => ?_⟩
  · subst h0
    have hx : xs = [] := List.eq_nil_of_length_eq_zero (by omega)
    subst hx
    obtain rfl : n = 0 := by simpa using hl'.symm
    exact ⟨_, g, off, 0, rfl, rfl, Nat.le_refl _, Nat.zero_le _, fun h => by omega, fun h => by omega, fun j u hj => by simp at hj, fun j hj => by omega⟩
  · refine ⟨_, g, off + 1, c, rfl, hl', by omega, by omega, fun _ => ⟨rfl, ha2, ha3⟩, fun _ => hf (by omega), fun j u hj => ?_, fun j hj => ?_⟩
    · rw [Nat.add_assoc, Nat.add_comm 1 j]
      exact hc (j + 1) u (by simpa using hj)
    · rw [Nat.add_assoc, Nat.add_comm 1 j]
      exact hi (j + 1) (by omega)
/-- A list of one. -/
theorem QS.one (w : World) (e : TypeId) (x : Value) (hb : base ≤ w.heap.size) : QS base (w.alloc (.cells #[x] e)) (.slice (some ⟨w.heap.size, 0, none⟩) 1 1) 1 [x] :=
  ⟨_, w.heap.size, 0, 1, rfl, rfl, Nat.le_refl _, by unfold maxLen; omega, fun _ => ⟨rfl, hb, by simp⟩, fun _ o => World.frozen?_alloc_new w _ _ o, fun j u hj => by
    rw [World.cell?_alloc_mark, Nat.zero_add]; simpa using hj, fun j hj => by
    obtain rfl : j = 0 := by omega
    rw [World.cell?_alloc_mark]; rfl⟩
theorem QS.own (h : QS base w v n xs) (hw : ∀ b, v.ownBlock = some b → 0 < n) : ∀ b, v.ownBlock = some b → base ≤ b := by
  intro b hb
  have h0 := hw b hb
  obtain ⟨ao, g, off, cap, rfl, hl, hn, hm, ha, _⟩ := h
  obtain ⟨rfl, h2, _⟩ := ha (by omega)
  simp [Value.ownBlock] at hb
  omega
theorem appQ {t e : TypeId} {bytes : Nat} (E : ElemT t e 1 bytes) (hby : bytes ≤ 100) {ops : Array Oper} {rest : List Oper} {o : Oper} {a : Act} {Q : Exit → Act → World → Prop} (hgd : o.guard = none) (s x : Operand)
    (ho : o.op = .call { callee := .builtin .append, args := #[s, x], argTypes := #[t, t] })
    (base : Nat) (v : Value) (n : Nat) (xs : List Value) (u : Value) (w : World) (hs : a.eval s = v) (hx : a.eval x = .slice (some ⟨w.heap.size, 0, none⟩) 1 1)
    (hq : QS base w v n xs) (h1 : u.oneCell' = true) (hn : n ≤ 1000000000) (hbase : base ≤ w.heap.size)
    (h : ∀ v' w', QS base w' v' (n + 1) (xs ++ [u]) → w.heap.size ≤ w'.heap.size → Below base w w' → wpList Try.prog ops Q rest (a.put o.dst v') w') :
    wpList Try.prog ops Q (o :: rest) a (w.alloc (.cells #[u] e)) := by
  obtain ⟨i, z, hi, hz, h2, h3, h4⟩ := E.inf
  obtain ⟨ao, g, off, cap, rfl, hl, hnc, hm, ha, hf, hc, hsm⟩ := hq
  have hbw : Below w.heap.size w (w.alloc (.cells #[u] e)) := (Below.refl _ _).alloc (Nat.le_refl _) _
  have hsrc : Src Try.prog i.size t (.slice (some ⟨w.heap.size, 0, none⟩) 1 1) 1 [u] (w.alloc (.cells #[u] e)) := by
    refine Src.ofSlice _ E.ul ⟨w.heap.size, 0, none⟩ 1 1 [u] (by rw [h2]; rfl) (fun j y hj => ?_) (fun y hy => by simp at hy; subst hy; exact h1)
    rw [Addr.add_lit, Nat.zero_add, World.cell?_alloc_mark]
    simpa using hj
  have key : ∃ v' w', (Builtin.append_ #[t, t] o.type #[.slice ao n cap, .slice (some ⟨w.heap.size, 0, none⟩) 1 1]).run Try.prog (w.alloc (.cells #[u] e)) = .ok v' w' ∧ QS base w' v' (n + 1) (xs ++ [u]) ∧ w.heap.size ≤ w'.heap.size ∧ Below base w w' := by
    rcases Nat.lt_or_ge n cap with hroom | hfull
    · obtain ⟨rfl, ha2, ha3⟩ := ha (by omega)
      have hne : g ≠ w.heap.size := by omega
      have hb := hbw.block g ha3
      have hrun := run_append_room_src (P := Try.prog) (w.alloc (.cells #[u] e)) t t o.type e i E.ul hi g off n cap (.slice (some ⟨w.heap.size, 0, none⟩) 1 1) 1 [u] hsrc (by omega)
        (fun j hj => by
          have : j = 0 := by simpa using hj
          subst this
          rw [h2, Nat.mul_one, Nat.add_zero, World.cell?_of_block hb]; exact hsm n hroom)
        (fun j _ => by rw [World.frozen?_of_block hb]; exact hf (by omega) _)
      rw [h2, Nat.mul_one] at hrun
      have ew : (w.alloc (.cells #[u] e)).setCells g (off + n) [u] = (w.alloc (.cells #[u] e)).setCell ⟨g, off + n, none⟩ u := rfl
      rw [ew] at hrun
      have hBel : Below base w ((w.alloc (.cells #[u] e)).setCell ⟨g, off + n, none⟩ u) := ((Below.refl base w).alloc hbase _).setCell ha2 _
      have cold : ∀ j, (w.alloc (.cells #[u] e)).cell? ⟨g, j, none⟩ = w.cell? ⟨g, j, none⟩ := fun j => World.cell?_of_block hb
      refine ⟨_, _, hrun, ⟨_, g, off, cap, rfl, by simp [hl], by omega, hm, fun _ => ⟨rfl, ha2, by simp [World.setCell]; omega⟩, fun _ o' => by rw [frozen_set, World.frozen?_of_block hb]; exact hf (by omega) o', fun j y hj => ?_, fun j hj => ?_⟩, by simp [World.setCell], hBel⟩
      · rcases Nat.lt_or_ge j n with h5 | h5
        · rw [List.getElem?_append_left (by omega)] at hj
          exact cell_setOther (by rw [cold]; exact hc j y hj) (by omega)
        · rw [List.getElem?_append_right (by omega)] at hj
          have : j = n := by
            have := (List.getElem?_eq_some_iff.1 hj).1
            simp at this; omega
          subst this
          simp [hl] at hj
          subst hj
          obtain ⟨y, hy⟩ := Option.isSome_iff_exists.1 (hsm j hroom)
          exact cell_setSame (v := y) (by rw [cold]; exact hy)
      · obtain ⟨y, hy⟩ := Option.isSome_iff_exists.1 (hsm j hj)
        by_cases h5 : j = n
        · subst h5
          rw [cell_setSame (v := y) (by rw [cold]; exact hy)]; rfl
        · rw [cell_setOther (v := y) (by rw [cold]; exact hy) (by omega)]; rfl
    · obtain rfl : cap = n := by omega
      have hold : (Builtin.firstCells i.size cap (.slice ao cap cap)).run Try.prog (w.alloc (.cells #[u] e)).drew = .ok xs.toArray (w.alloc (.cells #[u] e)).drew := by
        rcases Nat.eq_zero_or_pos cap with h0 | h0
        · subst h0
          have hx : xs = [] := List.eq_nil_of_length_eq_zero hl
          subst hx
          cases ao with
          | none => exact run_firstCells_none _ _ _ _ _
          | some ad => exact run_firstCells_some _ _ _ _ _ _ [] (by simp) (fun j y hj => by simp at hj)
        · obtain ⟨rfl, ha2, ha3⟩ := ha h0
          refine run_firstCells_some _ _ _ _ _ _ xs (by rw [hl, h2, Nat.mul_one]) (fun j y hj => ?_)
          rw [Addr.add_lit]
          show (w.alloc (.cells #[u] e)).cell? _ = _
          rw [World.cell?_of_block (hbw.block g ha3)]
          exact hc j y hj
      have hrun := run_append_grow_src (P := Try.prog) (w.alloc (.cells #[u] e)) t t o.type e i z E.ul hi hz ao cap cap xs hold (.slice (some ⟨w.heap.size, 0, none⟩) 1 1) 1 [u] hsrc (by omega) (by omega)
        (growslice_fits (by omega) (by
          have : (cap + 1) * i.bytes ≤ 1000000001 * 100 := Nat.mul_le_mul (by omega) (by omega)
          omega))
      have hge := grownCap_ge (w.alloc (.cells #[u] e)) (cap + 1) cap e
      have hcm := grownCap_le_maxLen (w.alloc (.cells #[u] e)) (cap + 1) cap e (by unfold maxLen; omega)
      generalize grownCap (w.alloc (.cells #[u] e)) (cap + 1) cap e = nc at *
      have hbd : base ≤ (w.alloc (.cells #[u] e)).drew.heap.size := by show base ≤ (w.alloc (.cells #[u] e)).heap.size; simp; omega
      have hBel : Below base w ((w.alloc (.cells #[u] e)).drew.alloc (.cells ((xs ++ [u]).toArray ++ Builtin.zeroCells z.cells (nc - (cap + 1))) e)) :=
        (((Below.refl base w).alloc hbase _).drew).alloc hbd _
      refine ⟨_, _, hrun, ⟨_, (w.alloc (.cells #[u] e)).heap.size, 0, nc, rfl, by simp [hl], hge, hcm, fun _ => ⟨rfl, hbd, ?_⟩, fun _ o' => ?_, fun j y hj => ?_, fun j hj => ?_⟩, ?_, hBel⟩
      · exact Nat.lt_of_lt_of_eq (Nat.lt_succ_self (w.alloc (.cells #[u] e)).heap.size) (World.size_alloc (w.alloc (.cells #[u] e)).drew _).symm
      · exact World.frozen?_alloc_new (w.alloc (.cells #[u] e)).drew _ _ o'
      · have e1 : ((w.alloc (.cells #[u] e)).drew.alloc (.cells ((xs ++ [u]).toArray ++ Builtin.zeroCells z.cells (nc - (cap + 1))) e)).cell? ⟨(w.alloc (.cells #[u] e)).heap.size, 0 + j, none⟩ = _ := World.cell?_alloc_new (w.alloc (.cells #[u] e)).drew _ _ (0 + j)
        rw [e1, Nat.zero_add, Array.getElem?_append_left (by
          have := (List.getElem?_eq_some_iff.1 hj).1
          simpa using this), List.getElem?_toArray]
        exact hj
      · have e1 : ((w.alloc (.cells #[u] e)).drew.alloc (.cells ((xs ++ [u]).toArray ++ Builtin.zeroCells z.cells (nc - (cap + 1))) e)).cell? ⟨(w.alloc (.cells #[u] e)).heap.size, 0 + j, none⟩ = _ := World.cell?_alloc_new (w.alloc (.cells #[u] e)).drew _ _ (0 + j)
        rw [e1, Nat.zero_add]
        have hsz : ((xs ++ [u]).toArray ++ Builtin.zeroCells z.cells (nc - (cap + 1))).size = nc := by
          rw [Array.size_append, List.size_toArray, size_zeroCells, h4, List.length_append, hl]
          simp; omega
        rw [Array.getElem?_eq_getElem (by rw [hsz]; exact hj)]
        rfl
      · show w.heap.size ≤ ((w.alloc (.cells #[u] e)).drew.alloc _).heap.size
        rw [World.size_alloc]
        show w.heap.size ≤ (w.alloc (.cells #[u] e)).heap.size + 1
        rw [World.size_alloc]; omega
  obtain ⟨v', w', hrun, k1, k2, k3⟩ := key
  refine wpList_plain hgd fun K hK => ?_
  unfold Oper.wp execOp
  simp only [ho, resolve, invoke, builtin, Sem.run_bind, Sem.run_pure, Result.andThen_ok, List.map_toArray, List.map_cons, List.map_nil, hs, hx, hrun]
  exact hK _ _ (h v' w' k1 k2 k3)
end
end Go.Proofs.Ythdbgpdidolmaaa
