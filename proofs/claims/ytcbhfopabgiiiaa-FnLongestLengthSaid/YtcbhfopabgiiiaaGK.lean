/- A queue: a slice of the call's own whose front is cut off, and to whose end is appended. Elements of one cell, at most 10^9.
Automata of any number of states, to be read.
The first word of an automaton: the program's.
The first words of two automata side by side: the program's. -/
import Derived.Deep.AppendSrc
import Derived.StillTailTactics
import Derived.Deep.LoopGhost
import Derived.Test.YtcbhfopabgiiiaaGA
import Derived.Test.YtcbhfopabgiiiaaGB
import Derived.Test.YtcbhfopabgiiiaaGG
import Derived.Test.YtcbhfopabgiiiaaGI
set_option linter.unusedSimpArgs false
set_option linter.unusedVariables false
set_option linter.unusedSectionVars false
namespace Go.Proofs.Ytcbhfopabgiiiaa
open Go.RowKit
set_option maxRecDepth 100000
/-- The queue v has the n cells xs, in a block from base on. -/
def QS (base : Nat) (w : World) (v : Value) (n : Nat) (xs : List Value) : Prop :=
  ∃ ao g off cap, v = .slice ao n cap ∧ xs.length = n ∧ n ≤ cap ∧ cap ≤ maxLen ∧ (0 < cap → ao = some ⟨g, off, none⟩ ∧ base ≤ g ∧ g < w.heap.size) ∧ (0 < cap → ∀ o, w.frozen? ⟨g, o, none⟩ = false) ∧
    (∀ j u, xs[j]? = some u → w.cell? ⟨g, off + j, none⟩ = some u) ∧ ∀ j, j < cap → (w.cell? ⟨g, off + j, none⟩).isSome = true
section
variable {base : Nat} {w w' : World} {v : Value} {n : Nat} {xs : List Value}
theorem QS.stay (h : QS base w v n xs) (hs : w.heap.size ≤ w'.heap.size) (hk : ∀ k, base ≤ k → k < w.heap.size → w'.heap[k]? = w.heap[k]?) : QS base w' v n xs := by
  obtain ⟨ao, g, off, cap, rfl, hl, hn, hm, ha, hf, hc, hi⟩ := h
  rcases Nat.eq_zero_or_pos cap with h0 | h0
  · have hx : xs = [] := List.eq_nil_of_length_eq_zero (by omega)
    subst hx
    exact ⟨ao, g, off, cap, rfl, hl, hn, hm, fun h => by omega, fun h => by omega, fun j u hj => by simp at hj, fun j hj => by omega⟩
  · obtain ⟨ha1, ha2, ha3⟩ := ha h0
    have hb := hk g ha2 ha3
    exact ⟨ao, g, off, cap, rfl, hl, hn, hm, fun _ => ⟨ha1, ha2, by omega⟩, fun _ o => by rw [World.frozen?_of_block hb]; exact hf h0 o, fun j u hj => by rw [World.cell?_of_block hb]; exact hc j u hj, fun j hj => by rw [World.cell?_of_block hb]; exact hi j hj⟩
theorem QS.bel (h : QS base w v n xs) (hb : Below w.heap.size w w') : QS base w' v n xs := h.stay hb.size (fun k _ hk => hb.block k hk)
/-- A cell below base was written. -/
theorem QS.far (h : QS base w v n xs) {b o : Nat} (hb : b < base) (u : Value) : QS base (w.setCell ⟨b, o, none⟩ u) v n xs :=
  h.stay (by simp [World.setCell]) (fun k hk _ => Below.heap_setCell _ _ _ _ (by show k ≠ b; omega))
theorem QS.shape (h : QS base w v n xs) : ∃ ao cap, v = .slice ao n cap ∧ n ≤ 9223372036854775807 := by
  obtain ⟨ao, g, off, cap, rfl, hl, hn, hm, _⟩ := h
  exact ⟨ao, cap, rfl, by unfold maxLen at hm; omega⟩
/-- The front, and the rest. -/
theorem QS.front {x : Value} (h : QS base w v (n + 1) (x :: xs)) : ∃ g off cap, v = .slice (some ⟨g, off, none⟩) (n + 1) (cap + 1) ∧ n ≤ cap ∧ cap + 1 ≤ 9223372036854775807 ∧ w.cell? ⟨g, off, none⟩ = some x ∧
    (cap = 0 → QS base w (.slice (some ⟨g, off, none⟩) 0 0) n xs) ∧ (0 < cap → QS base w (.slice (some ⟨g, off + 1, none⟩) n cap) n xs) := by
  obtain ⟨ao, g, off, cap, rfl, hl, hn, hm, ha, hf, hc, hi⟩ := h
  obtain ⟨c, rfl⟩ : ∃ c, cap = c + 1 := ⟨cap - 1, by omega⟩
  obtain ⟨rfl, ha2, ha3⟩ := ha (by omega)
  have hl' : xs.length = n := by simpa using hl
  refine ⟨g, off, c, rfl, by omega, by unfold maxLen at hm; omega, by simpa using hc 0 x rfl, fun h0 => ?_, fun h0 => ?_⟩
  · subst h0
    have hx : xs = [] := List.eq_nil_of_length_eq_zero (by omega)
    subst hx
    obtain rfl : n = 0 := by simpa using hl'.symm
    exact ⟨_, g, off, 0, rfl, rfl, Nat.le_refl _, Nat.zero_le _, fun h => by omega, fun h => by omega, fun j u hj => by simp at hj, fun j hj => by omega⟩
  · refine ⟨_, g, off + 1, c, rfl, hl', by omega, by omega, fun _ => ⟨rfl, ha2, ha3⟩, fun _ => hf (by omega), fun j u hj => ?_, fun j hj => ?_⟩
    · rw [Nat.add_assoc, Nat.add_comm 1 j]
      exact hc (j + 1) u (by simpa using hj)
    · rw [Nat.add_assoc, Nat.add_comm 1 j]
      exact hi (j + 1) (by omega)
/-- A list of one. -/
theorem QS.one (w : World) (e : TypeId) (x : Value) (hb : base ≤ w.heap.size) : QS base (w.alloc (.cells #[x] e)) (.slice (some ⟨w.heap.size, 0, none⟩) 1 1) 1 [x] :=
  ⟨_, w.heap.size, 0, 1, rfl, rfl, Nat.le_refl _, by unfold maxLen; omega, fun _ => ⟨rfl, hb, by simp⟩, fun _ o => World.frozen?_alloc_new w _ _ o, fun j u hj => by
    rw [World.cell?_alloc_mark, Nat.zero_add]; simpa using hj, fun j hj => by
    obtain rfl : j = 0 := by omega
    rw [World.cell?_alloc_mark]; rfl⟩
theorem QS.own (h : QS base w v n xs) (hw : ∀ b, v.ownBlock = some b → 0 < n) : ∀ b, v.ownBlock = some b → base ≤ b := by
  intro b hb
  have h0 := hw b hb
  obtain ⟨ao, g, off, cap, rfl, hl, hn, hm, ha, _⟩ := h
  obtain ⟨rfl, h2, _⟩ := ha (by omega)
  simp [Value.ownBlock] at hb
  omega
theorem appQ {t e : TypeId} {bytes : Nat} (E : ElemT t e 1 bytes) (hby : bytes ≤ 100) {ops : Array Oper} {rest : List Oper} {o : Oper} {a : Act} {Q : Exit → Act → World → Prop} (hgd : o.guard = none) (s x : Operand)
    (ho : o.op = .call { callee := .builtin .append, args := #[s, x], argTypes := #[t, t] })
    (base : Nat) (v : Value) (n : Nat) (xs : List Value) (u : Value) (w : World) (hs : a.eval s = v) (hx : a.eval x = .slice (some ⟨w.heap.size, 0, none⟩) 1 1)
    (hq : QS base w v n xs) (h1 : u.oneCell' = true) (hn : n ≤ 1000000000) (hbase : base ≤ w.heap.size)
    (h : ∀ v' w', QS base w' v' (n + 1) (xs ++ [u]) → w.heap.size ≤ w'.heap.size → Below base w w' → wpList Try.prog ops Q rest (a.put o.dst v') w') :
    wpList Try.prog ops Q (o :: rest) a (w.alloc (.cells #[u] e)) := by
  obtain ⟨i, z, hi, hz, h2, h3, h4⟩ := E.inf
  obtain ⟨ao, g, off, cap, rfl, hl, hnc, hm, ha, hf, hc, hsm⟩ := hq
  have hbw : Below w.heap.size w (w.alloc (.cells #[u] e)) := (Below.refl _ _).alloc (Nat.le_refl _) _
  have hsrc : Src Try.prog i.size t (.slice (some ⟨w.heap.size, 0, none⟩) 1 1) 1 [u] (w.alloc (.cells #[u] e)) := by
    refine Src.ofSlice _ E.ul ⟨w.heap.size, 0, none⟩ 1 1 [u] (by rw [h2]; rfl) (fun j y hj => ?_) (fun y hy => by simp at hy; subst hy; exact h1)
    rw [Addr.add_lit, Nat.zero_add, World.cell?_alloc_mark]
    simpa using hj
  have key : ∃ v' w', (Builtin.append_ #[t, t] o.type #[.slice ao n cap, .slice (some ⟨w.heap.size, 0, none⟩) 1 1]).run Try.prog (w.alloc (.cells #[u] e)) = .ok v' w' ∧ QS base w' v' (n + 1) (xs ++ [u]) ∧ w.heap.size ≤ w'.heap.size ∧ Below base w w' := by
    rcases Nat.lt_or_ge n cap with hroom | hfull
    · obtain ⟨rfl, ha2, ha3⟩ := ha (by omega)
      have hne : g ≠ w.heap.size := by omega
      have hb := hbw.block g ha3
      have hrun := run_append_room_src (P := Try.prog) (w.alloc (.cells #[u] e)) t t o.type e i E.ul hi g off n cap (.slice (some ⟨w.heap.size, 0, none⟩) 1 1) 1 [u] hsrc (by omega)
        (fun j hj => by
          have : j = 0 := by simpa using hj
          subst this
          rw [h2, Nat.mul_one, Nat.add_zero, World.cell?_of_block hb]; exact hsm n hroom)
        (fun j _ => by rw [World.frozen?_of_block hb]; exact hf (by omega) _)
      rw [h2, Nat.mul_one] at hrun
      have ew : (w.alloc (.cells #[u] e)).setCells g (off + n) [u] = (w.alloc (.cells #[u] e)).setCell ⟨g, off + n, none⟩ u := rfl
      rw [ew] at hrun
      have hBel : Below base w ((w.alloc (.cells #[u] e)).setCell ⟨g, off + n, none⟩ u) := ((Below.refl base w).alloc hbase _).setCell ha2 _
      have cold : ∀ j, (w.alloc (.cells #[u] e)).cell? ⟨g, j, none⟩ = w.cell? ⟨g, j, none⟩ := fun j => World.cell?_of_block hb
      refine ⟨_, _, hrun, ⟨_, g, off, cap, rfl, by simp [hl], by omega, hm, fun _ => ⟨rfl, ha2, by simp [World.setCell]; omega⟩, fun _ o' => by rw [frozen_set, World.frozen?_of_block hb]; exact hf (by omega) o', fun j y hj => ?_, fun j hj => ?_⟩, by simp [World.setCell], hBel⟩
      · rcases Nat.lt_or_ge j n with h5 | h5
        · rw [List.getElem?_append_left (by omega)] at hj
          exact cell_setOther (by rw [cold]; exact hc j y hj) (by omega)
        · rw [List.getElem?_append_right (by omega)] at hj
          have : j = n := by
            have := (List.getElem?_eq_some_iff.1 hj).1
            simp at this; omega
          subst this
          simp [hl] at hj
          subst hj
          obtain ⟨y, hy⟩ := Option.isSome_iff_exists.1 (hsm j hroom)
          exact cell_setSame (v := y) (by rw [cold]; exact hy)
      · obtain ⟨y, hy⟩ := Option.isSome_iff_exists.1 (hsm j hj)
        by_cases h5 : j = n
        · subst h5
          rw [cell_setSame (v := y) (by rw [cold]; exact hy)]; rfl
        · rw [cell_setOther (v := y) (by rw [cold]; exact hy) (by omega)]; rfl
    · obtain rfl : cap = n := by omega
      have hold : (Builtin.firstCells i.size cap (.slice ao cap cap)).run Try.prog (w.alloc (.cells #[u] e)).drew = .ok xs.toArray (w.alloc (.cells #[u] e)).drew := by
        rcases Nat.eq_zero_or_pos cap with h0 | h0
        · subst h0
          have hx : xs = [] := List.eq_nil_of_length_eq_zero hl
          subst hx
          cases ao with
          | none => exact run_firstCells_none _ _ _ _ _
          | some ad => exact run_firstCells_some _ _ _ _ _ _ [] (by simp) (fun j y hj => by simp at hj)
        · obtain ⟨rfl, ha2, ha3⟩ := ha h0
          refine run_firstCells_some _ _ _ _ _ _ xs (by rw [hl, h2, Nat.mul_one]) (fun j y hj => ?_)
          rw [Addr.add_lit]
          show (w.alloc (.cells #[u] e)).cell? _ = _
          rw [World.cell?_of_block (hbw.block g ha3)]
          exact hc j y hj
      have hrun := run_append_grow_src (P := Try.prog) (w.alloc (.cells #[u] e)) t t o.type e i z E.ul hi hz ao cap cap xs hold (.slice (some ⟨w.heap.size, 0, none⟩) 1 1) 1 [u] hsrc (by omega) (by omega)
        (growslice_fits (by omega) (by
          have : (cap + 1) * i.bytes ≤ 1000000001 * 100 := Nat.mul_le_mul (by omega) (by omega)
          omega))
      have hge := grownCap_ge (w.alloc (.cells #[u] e)) (cap + 1) cap e
      have hcm := grownCap_le_maxLen (w.alloc (.cells #[u] e)) (cap + 1) cap e (by unfold maxLen; omega)
      generalize grownCap (w.alloc (.cells #[u] e)) (cap + 1) cap e = nc at *
      have hbd : base ≤ (w.alloc (.cells #[u] e)).drew.heap.size := by show base ≤ (w.alloc (.cells #[u] e)).heap.size; simp; omega
      have hBel : Below base w ((w.alloc (.cells #[u] e)).drew.alloc (.cells ((xs ++ [u]).toArray ++ Builtin.zeroCells z.cells (nc - (cap + 1))) e)) :=
        (((Below.refl base w).alloc hbase _).drew).alloc hbd _
      refine ⟨_, _, hrun, ⟨_, (w.alloc (.cells #[u] e)).heap.size, 0, nc, rfl, by simp [hl], hge, hcm, fun _ => ⟨rfl, hbd, ?_⟩, fun _ o' => ?_, fun j y hj => ?_, fun j hj => ?_⟩, ?_, hBel⟩
      · exact Nat.lt_of_lt_of_eq (Nat.lt_succ_self (w.alloc (.cells #[u] e)).heap.size) (World.size_alloc (w.alloc (.cells #[u] e)).drew _).symm
      · exact World.frozen?_alloc_new (w.alloc (.cells #[u] e)).drew _ _ o'
      · have e1 : ((w.alloc (.cells #[u] e)).drew.alloc (.cells ((xs ++ [u]).toArray ++ Builtin.zeroCells z.cells (nc - (cap + 1))) e)).cell? ⟨(w.alloc (.cells #[u] e)).heap.size, 0 + j, none⟩ = _ := World.cell?_alloc_new (w.alloc (.cells #[u] e)).drew _ _ (0 + j)
        rw [e1, Nat.zero_add, Array.getElem?_append_left (by
          have := (List.getElem?_eq_some_iff.1 hj).1
          simpa using this), List.getElem?_toArray]
        exact hj
      · have e1 : ((w.alloc (.cells #[u] e)).drew.alloc (.cells ((xs ++ [u]).toArray ++ Builtin.zeroCells z.cells (nc - (cap + 1))) e)).cell? ⟨(w.alloc (.cells #[u] e)).heap.size, 0 + j, none⟩ = _ := World.cell?_alloc_new (w.alloc (.cells #[u] e)).drew _ _ (0 + j)
        rw [e1, Nat.zero_add]
        have hsz : ((xs ++ [u]).toArray ++ Builtin.zeroCells z.cells (nc - (cap + 1))).size = nc := by
          rw [Array.size_append, List.size_toArray, size_zeroCells, h4, List.length_append, hl]
          simp; omega
        rw [Array.getElem?_eq_getElem (by rw [hsz]; exact hj)]
        rfl
      · show w.heap.size ≤ ((w.alloc (.cells #[u] e)).drew.alloc _).heap.size
        rw [World.size_alloc]
        show w.heap.size ≤ (w.alloc (.cells #[u] e)).heap.size + 1
        rw [World.size_alloc]; omega
  obtain ⟨v', w', hrun, k1, k2, k3⟩ := key
  refine wpList_plain hgd fun K hK => ?_
  unfold Oper.wp execOp
  simp only [ho, resolve, invoke, builtin, Sem.run_bind, Sem.run_pure, Result.andThen_ok, List.map_toArray, List.map_cons, List.map_nil, hs, hx, hrun]
  exact hK _ _ (h v' w' k1 k2 k3)
end
end Go.Proofs.Ytcbhfopabgiiiaa
namespace Go.Proofs.Ytcbhfopabgiiiaa
open Go.RowKit
variable {S T : Nat → Prop}
/-- Complete, with marks, of any number of states. -/
def okG (D : DfaD) : Prop := 1 ≤ D.1.length ∧ D.2.length = D.1.length ∧ ∀ r ∈ D.1, r.length = 3 ∧ ∀ x ∈ r, 0 ≤ x ∧ x ≤ (D.1.length : Int) - 1
theorem okD.g {D : DfaD} (h : okD D) : okG D := ⟨h.1.1, h.2⟩
theorem aut_okG {α : Type} [DecidableEq α] {nx : α → Nat → α} {en : α → Bool} {M : List α} (h1 : 1 ≤ M.length) (hcl : ∀ s ∈ M, nx s 0 ∈ M ∧ nx s 1 ∈ M ∧ nx s 2 ∈ M) : okG (autD nx en M) := by
  refine ⟨by rw [aut_len]; exact h1, by simp [autD], fun r hr => ?_⟩
  rw [aut_len]
  unfold autD at hr
  obtain ⟨s, hs, rfl⟩ := List.mem_map.1 hr
  refine ⟨rfl, fun x hx => ?_⟩
  have k := fun t (ht : t ∈ M) => List.idxOf_lt_length_of_mem ht
  obtain ⟨h0, h1, h2⟩ := hcl s hs
  have k0 := k _ h0
  have k1 := k _ h1
  have k2 := k _ h2
  simp at hx
  rcases hx with rfl | rfl | rfl <;> omega
theorem dn_cellG {D : DfaD} (h : okG D) {s c : Nat} (hs : s < D.1.length) (hc : c < 3) : (D.1[s]).length = 3 ∧ (D.1[s])[c]'(by rw [(h.2.2 _ (List.getElem_mem hs)).1]; exact hc) = (dn D s c : Int) ∧ dn D s c < D.1.length := by
  have h1 := h.2.2 _ (List.getElem_mem hs)
  have h2 := h1.2 _ (List.getElem_mem (show c < (D.1[s]).length by rw [h1.1]; exact hc))
  have e : dn D s c = ((D.1[s])[c]'(by rw [h1.1]; exact hc)).toNat := by
    unfold dn
    simp only [List.getD_eq_getElem?_getD, List.getElem?_eq_getElem hs, Option.getD_some, List.getElem?_eq_getElem (show c < (D.1[s]).length by rw [h1.1]; exact hc)]
  exact ⟨h1.1, by rw [e]; omega, by rw [e]; omega⟩
theorem dn_ltG {D : DfaD} (h : okG D) {s c : Nat} (hs : s < D.1.length) (hc : c < 3) : dn D s c < D.1.length := (dn_cellG h hs hc).2.2
theorem de_cellG {D : DfaD} (h : okG D) {s : Nat} (hs : s < D.1.length) : D.2[s]'(by rw [h.2.1]; exact hs) = de D s := by
  unfold de
  rw [List.getD_eq_getElem?_getD, List.getElem?_eq_getElem (by rw [h.2.1]; exact hs), Option.getD_some]
theorem DfaR.rowG {w : World} {a : Option Addr} {n c : Nat} {ve : Value} {D : DfaD} (h : DfaR S w (.slice a n c) ve D) (hD : okG D) {x : Nat} (hx : x < D.1.length) :
    ∃ b o br or_ cr, a = some ⟨b, o, none⟩ ∧ w.cell? ⟨b, o + x, none⟩ = some (.slice (some ⟨br, or_, none⟩) 3 cr) ∧ Ints S w (.slice (some ⟨br, or_, none⟩) 3 cr) D.1[x] ∧
      ∀ l, l < 3 → w.cell? ⟨br, or_ + l, none⟩ = some (.int .i64 (dn D x l)) := by
  obtain ⟨b, o, v, e, hc, hv⟩ := IntSS.at h.1 hx
  obtain ⟨ar, cr, rfl, _⟩ := hv.shape
  have h3 := (dn_cellG hD hx (c := 0) (by omega)).1
  rw [h3] at hc hv
  obtain ⟨br, or_, rfl, _⟩ := Ints.at hv (k := 0) (by omega)
  refine ⟨b, o, br, or_, cr, e, hc, hv, fun l hl => ?_⟩
  obtain ⟨br', or', e', h2⟩ := Ints.at hv (k := l) (by omega)
  cases e'
  rw [h2, (dn_cellG hD hx hl).2.1]
theorem DfaR.markG {w : World} {a : Option Addr} {n c : Nat} {vn : Value} {D : DfaD} (h : DfaR S w vn (.slice a n c) D) (hD : okG D) {x : Nat} (hx : x < D.1.length) :
    ∃ b o, a = some ⟨b, o, none⟩ ∧ w.cell? ⟨b, o + x, none⟩ = some (.bool (de D x)) := by
  obtain ⟨b, o, e, hc⟩ := Bools.at h.2 (k := x) (by rw [hD.2.1]; exact hx)
  exact ⟨b, o, e, by rw [hc, de_cellG hD hx]⟩
end Go.Proofs.Ytcbhfopabgiiiaa
namespace Go.Proofs.Ytcbhfopabgiiiaa
open Go.RowKit
set_option maxRecDepth 100000
variable {S T : Nat → Prop}
/-- A list, one element a state. -/
def ml {α : Type} (n : Nat) (f : Nat → α) : List α := (List.range n).map f
theorem ml_len {α : Type} (n : Nat) (f : Nat → α) : (ml n f).length = n := by simp [ml]
theorem ml_get {α : Type} {n : Nat} (f : Nat → α) {s : Nat} (h : s < n) : (ml n f)[s]'(by rw [ml_len]; exact h) = f s := by simp [ml]
theorem ml_set {α : Type} {n : Nat} {f g : Nat → α} {k : Nat} {b : α} (h : ∀ s, g s = if s = k then b else f s) : (ml n f).set k b = ml n g := by
  apply List.ext_getElem (by simp [ml])
  intro i h1 h2
  have hi : i < n := by rw [ml_len] at h2; exact h2
  rw [List.getElem_set, ml_get g hi, h]
  by_cases e : k = i
  · subst e; simp
  · rw [if_neg e, if_neg (Ne.symm e)]; simp [ml]
theorem ml_rep {α : Type} (n : Nat) (x : α) : List.replicate n x = ml n (fun _ => x) := by apply List.ext_getElem <;> simp [ml]
theorem ml_congr {α : Type} {n : Nat} {f g : Nat → α} (h : ∀ s, f s = g s) : ml n f = ml n g := by rw [show f = g from funext h]
/-- The marks of the states that are met. -/
def snw (M : List Nat) (t : Nat) : Bool := decide (t ∈ M)
/-- Their first words. -/
noncomputable def wl (nx : Nat → Nat → Nat) (M : List Nat) (t : Nat) : ByteArray := if t ∈ M then wS (fk nx 0 t) else ByteArray.empty
/-- The queue's cells. -/
def qc (M : List Nat) : List Value := M.map fun s : Nat => .int .i64 s
theorem sn_add {M : List Nat} {t : Nat} (h : t ∉ M) (s : Nat) : snw (M ++ [t]) s = if s = t then true else snw M s := by
  by_cases e : s = t
  · subst e; simp [snw]
  · simp [snw, e]
theorem wl_add {nx : Nat → Nat → Nat} {M : List Nat} {t : Nat} (h : t ∉ M) (s : Nat) : wl nx (M ++ [t]) s = if s = t then wS (fk nx 0 t) else wl nx M s := by
  by_cases e : s = t
  · subst e; simp [wl]
  · simp [wl, e]
theorem qc_add (M : List Nat) (t k : Nat) (hk : k ≤ M.length) : qc ((M ++ [t]).drop k) = qc (M.drop k) ++ [.int .i64 t] := by
  rw [List.drop_append_of_le_length hk]; simp [qc]
theorem qc_cut {M : List Nat} {k : Nat} (hk : k < M.length) : qc (M.drop k) = .int .i64 (M[k] : Nat) :: qc (M.drop (k + 1)) := by
  unfold qc; rw [List.drop_eq_getElem_cons hk, List.map_cons]
noncomputable def fwB (L : Lg) : Bool := pb (hasW L)
theorem letterText_c (c : Nat) (w : World) (hc : c < 3) : Calls Try.prog 111 #[.int .i64 c] w (fun e w' => e = .returned (.string (lt c)) ∧ w' = w) := by
  rcases (by omega : c = 0 ∨ c = 1 ∨ c = 2) with rfl | rfl | rfl
  all_goals
    go_enter Try.func111, Try.ntmps111
    go_wp2
    go_ret
    exact ⟨rfl, rfl⟩
set_option maxHeartbeats 2000000 in
theorem firstWord_c (vn ve : Value) (D : DfaD) (w : World) (h : DfaR S w vn ve D) (hD : okG D) (hn2 : D.1.length ≤ 2000) :
    Calls Try.prog 77 #[.agg #[vn, ve]] w (RO w (.tuple #[.string (fstW (lgD D)), .bool (fwB (lgD D))])) := by
  obtain ⟨a, c, b, d, rfl, rfl, hn, hm⟩ := (h).shapes
  obtain ⟨W, hW⟩ : ∃ W, W = w.alloc (.cells #[.slice a D.1.length c, .slice b D.2.length d] 26) := ⟨_, rfl⟩
  have Hb0 : Hid (Below w.heap.size w W) := by rw [hW]; exact (Below.refl _ _).alloc (Nat.le_refl _) _
  have c0 : W.cell? ⟨w.heap.size, 0, none⟩ = some (.slice a D.1.length c) := by rw [hW, World.cell?_alloc_mark]; rfl
  have c1 : W.cell? ⟨w.heap.size, 1, none⟩ = some (.slice b D.2.length d) := by rw [hW, World.cell?_alloc_mark]; rfl
  have K0 : Hid (W.heap[w.heap.size]? = some (.cells #[.slice a D.1.length c, .slice b D.2.length d] 26 (0, 0))) := by rw [hW]; exact blkNew _ _ rfl
  have Hz : Hid (W.heap.size = w.heap.size + 1) := by rw [hW]; simp [Hid]
  have H := Lib.hid ((h).stay (kpB Hb0.out)); clear h
  have HW := Lib.hid hW; clear hW
  have HD := Lib.hid hD
  have hn1 : 1 ≤ D.1.length := hD.1
  have hn0I : (0 : Int) < (D.1.length : Int) := by omega
  have Hdl := Lib.hid hD.2.1
  have hWl : w.heap.size < W.heap.size := by have := (Array.getElem?_eq_some_iff.1 K0.out).1; exact this
  clear hD
  rw [HW.out] at c0 c1
  go_enter Try.func77, Try.ntmps77
  go_wp2_with (first
    | (at_make; refine makeRow ezStr (by decide) rfl (.tmp 12) (.tmp 12) rfl D.1.length _ rfl rfl (by omega) ?_; rw [← HW.out]; intro w1 hr1 hb1 hz1; have K1 := Lib.hid (blkBel hb1 K0.out); obtain ⟨c0', c1', _, _⟩ := blk2 K1.out)
    | (at_make; refine makeRow ezBool (by decide) rfl (.tmp 16) (.tmp 16) rfl D.1.length _ rfl rfl (by omega) ?_; intro w2 hr2 hb2 hz2; have d0 := hr2.out.cell (i := 0) (by rw [List.length_replicate]; omega); rw [List.getElem_replicate] at d0; have f0 := hr2.out.fz 0))
  clear c0 c1 c0' c1' d0 f0
  have hl1 := hr1.out.lt
  have hl2 := hr2.out.lt
  have hz12 : W.heap.size ≤ w1.heap.size := hb1.size
  obtain ⟨B1, hB1⟩ : ∃ B1, B1 = W.heap.size := ⟨_, rfl⟩
  obtain ⟨B2, hB2⟩ : ∃ B2, B2 = w1.heap.size := ⟨_, rfl⟩
  obtain ⟨B3, hB3⟩ : ∃ B3, B3 = w2.heap.size := ⟨_, rfl⟩
  rw [← hB1] at hr1 hl1
  rw [← hB2] at hr2 hl2 hl1
  rw [← hB3] at hl2
  have hW2 := Lib.hid (hb1.trans (hb2.mono hb1.size))
  have hr1' : Hid (RowS w2 B1 (List.replicate D.1.length ByteArray.empty)) := hr1.out.stay hb2
  clear hr1
  have hs2 := Lib.hid (hr2.out.set 0 true)
  rw [ml_rep, ml_set (g := snw [0]) (fun s => by by_cases e : s = 0 <;> simp [snw, e])] at hs2
  have hs1 := Lib.hid (hr1'.out.far (c := B2) (o := 0) (by omega) (.bool true))
  rw [ml_rep, ml_congr (g := wl (dn D) [0]) (fun s => by
    by_cases e : s = 0
    · subst e; simp [wl, fk_zero, wS_zero]
    · simp [wl, e])] at hs1
  have hWB1 : W.heap.size ≤ B1 := by omega
  have hWB2 : W.heap.size ≤ B2 := by omega
  have hW3 := Lib.hid (hW2.out.setCell (p := ⟨B2, 0, none⟩) hWB2 (.bool true))
  have hsz3 : (w2.setCell ⟨B2, 0, none⟩ (.bool true)).heap.size = B3 := by rw [hB3]; simp [World.setCell]
  obtain ⟨W4, hW4⟩ : ∃ W4, W4 = (w2.setCell ⟨B2, 0, none⟩ (.bool true)).alloc (.cells #[.int .i64 0] 3) := ⟨_, rfl⟩
  have hq4 : QS B3 W4 (.slice (some ⟨B3, 0, none⟩) 1 1) 1 (qc (([0] : List Nat).drop 0)) := by
    have := QS.one (base := B3) (w2.setCell ⟨B2, 0, none⟩ (.bool true)) 3 (.int .i64 0) (by rw [hsz3]; exact Nat.le_refl _)
    rw [hsz3] at this
    rw [hW4]; exact this
  have hr4 : Hid (RowS W4 B1 (ml D.1.length (wl (dn D) [0]))) := by rw [hW4]; exact blkOld hs1.out
  have hs4 : Hid (RowB W4 B2 (ml D.1.length (snw [0]))) := by rw [hW4]; exact blkOld hs2.out
  have hb4 : Below W.heap.size W W4 := by rw [hW4]; exact hW3.out.alloc hW3.out.size _
  have hz4 : B3 ≤ W4.heap.size := by rw [hW4, World.size_alloc, hsz3]; omega
  rw [← hB1, ← hB2, ← hW4]
  clear hW4 hsz3 hW3 hs1 hs2 hr1' hr2 hz1 hz2 hb1 hb2 K1 hW2
  go_wp2_with fail
  rw [← hB3]
  have Hd1 := Lib.hid hB1
  have Hd2 := Lib.hid hB2
  have Hd3 := Lib.hid hB3
  clear hB1 hB2 hB3
  have hqc : Hid (rnd (dn D) 0 0 = [0]) := rfl
  go_loopg [6] D.1.length (fun m v6 wr => ∃ (k : Nat) (M : List Nat), m + k = D.1.length ∧ k ≤ M.length ∧ Hid (M = rnd (dn D) 0 k) ∧ QS B3 wr v6 (M.length - k) (qc (M.drop k)) ∧ B3 ≤ wr.heap.size ∧ Below W.heap.size W wr ∧
    Hid (RowS wr B1 (ml D.1.length (wl (dn D) M))) ∧ Hid (RowB wr B2 (ml D.1.length (snw M))) ∧ Hid (∀ j (h : j < M.length), j < k → de D M[j] = false))
  case atStart => exact ⟨0, [0], by omega, by simp, rfl, hq4, hz4, hb4, hr4, hs4, fun j _ hj => absurd hj (Nat.not_lt_zero _)⟩
  case round =>
    clear hq4 hz4 hb4 hr4 hs4 hqc
    obtain ⟨k, M, hmk, hkM, HM, hq, hz, hb, hr, hs, hno⟩ := hrel
    have hMn : M.length ≤ D.1.length := by rw [HM.out]; exact rnd_len_le (by omega) (fun s hs => ⟨dn_ltG HD.out hs (by omega), dn_ltG HD.out hs (by omega), dn_ltG HD.out hs (by omega)⟩) k
    have HP : Hid (∀ s ∈ M, s < D.1.length) := by rw [HM.out]; exact rnd_all (dn D) (P := (· < D.1.length)) (by omega) (fun s hs => ⟨dn_ltG HD.out hs (by omega), dn_ltG HD.out hs (by omega), dn_ltG HD.out hs (by omega)⟩) k
    by_cases hlt : k < M.length
    · obtain ⟨n', hn'⟩ : ∃ n', M.length - k = n' + 1 := ⟨M.length - k - 1, by omega⟩
      have hq' := hq
      rw [hn', qc_cut hlt] at hq'
      obtain ⟨g, off, cap, rfl, hnc, hcap, d0, _, _⟩ := hq'.front
      rw [hn'] at hq
      clear hq'
      obtain ⟨s, hsk⟩ : ∃ s, s = M[k] := ⟨_, rfl⟩
      rw [← hsk] at d0
      have hsn : s < D.1.length := HP.out s (by rw [hsk]; exact List.getElem_mem _)
      have hsI : (s : Int) < (D.1.length : Int) := by omega
      obtain ⟨be, oe, e1, d1⟩ := (H.out.stay (kpB hb)).markG HD.out hsn
      cases e1
      have hs2I : (s : Int) < (D.2.length : Int) := by rw [Hdl.out]; omega
      have hs2n : s < D.2.length := by rw [Hdl.out]; omega
      obtain ⟨c0, c1, _, _⟩ := blk2 (blkBel hb K0.out)
      have d2 := hr.out.cell (i := s) (by rw [ml_len]; exact hsn)
      rw [ml_get _ hsn, show wl (dn D) M s = wS (fk (dn D) 0 s) from if_pos (by rw [hsk]; exact List.getElem_mem _)] at d2
      obtain ⟨y, hy⟩ : ∃ y, y = de D s := ⟨_, rfl⟩
      rw [← hy] at d1
      have Hsk := Lib.hid hsk
      have Hn' := Lib.hid hn'
      clear hsk hn'
      have hnI : (0 : Int) < ((n' + 1 : Nat) : Int) := by omega
      cases y
      · obtain ⟨bn, on, br, or_, cr, e1, hs1', _, hs2'⟩ := H.out.rowG HD.out hsn
        cases e1
        have hs1 := kpB (S := fun _ => True) hb _ _ trivial hs1'
        have Hrow := Lib.hid hs2'
        have Hy := Lib.hid hy
        clear hs1' hs2' hy d2
        go_wp2_with fail
        clear d0 d1 c0 c1 hs1
        go_loopw [44, 6] (fun i v6 wr => ∃ (c : Nat) (V : List Nat), c ≤ 3 ∧ i = .int .i64 c ∧ Hid (V = visN (dn D) M s c) ∧ QS B3 wr v6 (V.length - k) (qc (V.drop k)) ∧ B3 ≤ wr.heap.size ∧ Below W.heap.size W wr ∧
          Hid (RowS wr B1 (ml D.1.length (wl (dn D) V))) ∧ Hid (RowB wr B2 (ml D.1.length (snw V)))) (fun i _ _ => 3 - (intOf i).toNat)
        case atStart => exact ⟨0, M, by omega, rfl, rfl, by rw [Hn'.out]; exact hq, hz, hb, hr, hs⟩
        case round =>
          clear hq hz hb hr hs
          obtain ⟨c, V, hc, rfl, HV, hq, hz, hb, hr, hs⟩ := hrel
          have hpre : Hid (M <+: V) := by rw [HV.out]; exact visN_pre _ _ _ (Nat.zero_le c)
          have hVk : k < V.length := Nat.lt_of_lt_of_le hlt hpre.out.length_le
          have HPV : Hid (∀ x ∈ V, x < D.1.length) := by rw [HV.out]; exact visN_all _ HP.out (fun c hc => dn_ltG HD.out hsn hc) hc
          have hVn : V.length ≤ D.1.length := nodup_le (by rw [HV.out, HM.out]; exact visN_nodup _ _ (rnd_nodup _ _ _) _) HPV.out
          have hVs : Hid (∀ j (h : j < M.length), V[j]'(Nat.lt_of_lt_of_le h hpre.out.length_le) = M[j]) := fun j h => by
            obtain ⟨r, hr⟩ := hpre.out
            simp only [← hr]
            rw [List.getElem_append_left h]
          obtain ⟨qa, qcap, rfl, hqn⟩ := hq.shape
          by_cases hc3 : c < 3
          · have htn := dn_ltG HD.out hsn hc3
            have d0 := kpB (S := fun _ => True) hb _ _ trivial (Hrow.out c hc3)
            have d1 := hs.out.cell (i := dn D s c) (by rw [ml_len]; exact htn)
            rw [ml_get _ htn] at d1
            have hcI : (c : Int) < 3 := by omega
            obtain ⟨x, hx⟩ : ∃ x, x = snw V (dn D s c) := ⟨_, rfl⟩
            rw [← hx] at d1
            cases x
            · have hnew : Hid (dn D s c ∉ V) := by intro hm; unfold snw at hx; simp [hm] at hx
              have d2 := hr.out.cell (i := s) (by rw [ml_len]; exact hsn)
              have hsV : s ∈ V := hpre.out.subset (by rw [Hsk.out]; exact List.getElem_mem _)
              rw [ml_get _ hsn, show wl (dn D) V s = wS (fk (dn D) 0 s) from if_pos hsV] at d2
              have hfk : Hid (wS (fk (dn D) 0 (dn D s c)) = wS (fk (dn D) 0 s) ++ lt c) := by
                have := fk_new (dn D) 0 (k := k) (c := c) (by rw [← HM.out]; exact hlt) hc3 (by
                  have e1 := HM.out; have e2 := HV.out; have e3 := Hsk.out
                  subst e1
                  rw [← e3, ← e2]; exact hnew.out)
                have e1 := HM.out; have e3 := Hsk.out
                subst e1
                rw [← e3] at this
                exact this
              have HV2 : Hid (V ++ [dn D s c] = visN (dn D) M s (c + 1)) := by
                show _ = vis (visN (dn D) M s c) (dn D s c)
                rw [← HV.out, vis_new hnew.out]
              have hs2 := Lib.hid (hs.out.set (dn D s c) true)
              rw [ml_set (g := snw (V ++ [dn D s c])) (sn_add hnew.out)] at hs2
              have hr3 : Hid ((ml D.1.length (wl (dn D) V)).set (dn D s c) (wS (fk (dn D) 0 s) ++ lt c) = ml D.1.length (wl (dn D) (V ++ [dn D s c]))) := by
                rw [← hfk.out]; exact ml_set (wl_add hnew.out)
              have hqa := qc_add V (dn D s c) k (by omega)
              have hVl : (V ++ [dn D s c]).length - k = V.length - k + 1 := by rw [List.length_append, List.length_singleton]; omega
              obtain ⟨t, ht⟩ : ∃ t, t = dn D s c := ⟨_, rfl⟩
              rw [← ht] at d0 d1 htn HV2 hs2 hr3 hqa hVl
              have hxs : (wS (fk (dn D) 0 s)).size ≤ 2000 := by
                have := fk_size (dn D) 0 k s (by rw [← HM.out, Hsk.out]; exact List.getElem_mem _)
                rw [← HM.out] at this
                omega
              have hls : (lt c).size ≤ 1 := Nat.le_refl _
              obtain ⟨x, hxx⟩ : ∃ x, x = wS (fk (dn D) 0 s) := ⟨_, rfl⟩
              rw [← hxx] at d2 hr3 hxs
              have hcc : ¬ (9223372036854775807 < x.size + (lt c).size) := by omega
              have htI : (t : Int) < (D.1.length : Int) := by omega
              have hB12 : B1 ≠ B2 := by omega
              have f1 := hs.out.fz t
              have Hqa := Lib.hid hqa
              have HVl := Lib.hid hVl
              obtain ⟨old, hold⟩ : ∃ u, wr.cell? ⟨B1, t, none⟩ = some u := by
                obtain ⟨u, hu⟩ : ∃ u, u = (ml D.1.length (wl (dn D) V))[t]'(by rw [ml_len]; exact htn) := ⟨_, rfl⟩
                exact ⟨_, hr.out.cell (i := t) (by rw [ml_len]; exact htn)⟩
              have f2 := hr.out.fz t
              obtain ⟨w5, hw5⟩ : ∃ w5, w5 = wr.setCell ⟨B2, t, none⟩ (.bool true) := ⟨_, rfl⟩
              have d3 : w5.cell? ⟨B1, s, none⟩ = some (.string x) := by rw [hw5]; exact kpSet (b := B2) _ _ hB12 d2
              have d4 : w5.cell? ⟨B1, t, none⟩ = some old := by rw [hw5]; exact kpSet (b := B2) _ _ hB12 hold
              have f4 : w5.frozen? ⟨B1, t, none⟩ = false := by rw [hw5, frozen_set]; exact f2
              have hr5 : Hid (RowS w5 B1 (ml D.1.length (wl (dn D) V))) := by rw [hw5]; exact hr.out.far hB12 _
              have hs5 : Hid (RowB w5 B2 (ml D.1.length (snw (V ++ [t])))) := by rw [hw5]; exact hs2.out
              have hq5 : QS B3 w5 (.slice qa (V.length - k) qcap) (V.length - k) (qc (V.drop k)) := by rw [hw5]; exact hq.far (by omega) _
              have hb5 : Below W.heap.size W w5 := by rw [hw5]; exact hb.setCell hWB2 _
              have hz5 : B3 ≤ w5.heap.size := by rw [hw5]; simp [World.setCell]; exact hz
              have Hw5 := Lib.hid hw5
              clear ht hxx hx hnew hfk hqa hVl hw5 hr hs hq hb hz hs2 hold d2 f2
              go_wp2_with fail
              rw [← Hw5.out]
              refine wp_region_still_tail 10 (by kernel_rfl) (by kernel_rfl) ?_
              simp only [List.take_succ_cons, List.take_zero, List.drop_succ_cons, List.drop_zero]
              repeat still_step
              still_call (letterText_c c _ hc3)
              repeat still_step
              refine wpStill_nil ?_
              change wpList _ _ _ _ _ w5.drew
              have hr6 : RowS w5.drew B1 _ := hr5.out
              have hs6 : Hid (RowB w5.drew B2 (ml D.1.length (snw (V ++ [t])))) := hs5.out
              have hq6 : QS B3 w5.drew (.slice qa (V.length - k) qcap) (V.length - k) (qc (V.drop k)) := hq5.stay (Nat.le_refl _) (fun _ _ _ => rfl)
              have hb6 : Below W.heap.size W w5.drew := hb5.drew
              have hz6 : B3 ≤ w5.drew.heap.size := hz5
              have d6 : w5.drew.cell? ⟨B1, t, none⟩ = some old := d4
              have f6 : w5.drew.frozen? ⟨B1, t, none⟩ = false := f4
              clear hr5 hs5 hq5 hb5 hz5 d3 d4 f4 d0 d1 f1 Hw5 hcc hxs hls
              generalize w5.drew = w6 at *
              obtain ⟨w7, hw7⟩ : ∃ w7, w7 = w6.setCell ⟨B1, t, none⟩ (.string (x ++ lt c)) := ⟨_, rfl⟩
              have hr7 : Hid (RowS w7 B1 (ml D.1.length (wl (dn D) (V ++ [t])))) := by rw [hw7, ← hr3.out]; exact hr6.set t _
              have hs7 : Hid (RowB w7 B2 (ml D.1.length (snw (V ++ [t])))) := by rw [hw7]; exact hs6.out.far (Ne.symm hB12) _
              have hq7 : QS B3 w7 (.slice qa (V.length - k) qcap) (V.length - k) (qc (V.drop k)) := by rw [hw7]; exact hq6.far (by omega) _
              have hb7 : Below W.heap.size W w7 := by rw [hw7]; exact hb6.setCell hWB1 _
              have hsz7 : w7.heap.size = w6.heap.size := by rw [hw7]; simp [World.setCell]
              have Hz7 := Lib.hid hsz7
              have hz7 : B3 ≤ w7.heap.size := by rw [hsz7]; exact hz6
              have Hw7 := Lib.hid hw7
              have hwb3 : W.heap.size ≤ B3 := by omega
              clear hr6 hs6 hq6 hb6 hz6 hsz7 hw7 hr3
              go_wp2_with (
                rw [← Hw7.out]
                at_builtin
                refine appQ elInt (by decide) rfl (.tmp 67) (.tmp 69) rfl B3 _ _ _ (.int .i64 t) w7 rfl (by rw [Hz7.out]; rfl) hq7 rfl (by omega) hz7 ?_
                intro v8 w8 hq8 hz8 hb8)
              go_roundw
              case rel => exact ⟨c + 1, V ++ [t], by omega, by go_num, HV2, by rw [HVl.out, Hqa.out]; exact hq8, by omega, hb7.trans (hb8.mono hwb3), (hb8.block B1 (by omega)).trans hr7.out, (hb8.block B2 (by omega)).trans hs7.out⟩
              case measure => simp [intOf]; omega
            · have hold : Hid (V = visN (dn D) M s (c + 1)) := by
                show _ = vis (visN (dn D) M s c) (dn D s c)
                rw [← HV.out, vis_old (by unfold snw at hx; simpa using hx.symm)]
              generalize dn D s c = t at *
              have htI : (t : Int) < (D.1.length : Int) := by omega
              clear hx
              go_wp2
              go_roundw
              case rel => exact ⟨c + 1, V, by omega, by go_num, hold, hq, hz, hb, hr, hs⟩
              case measure => simp [intOf]; omega
          · obtain rfl : c = 3 := by omega
            have hV1 : Hid (V = rnd (dn D) 0 (k + 1)) := by
              have e1 := HM.out; have e2 := HV.out; have e3 := Hsk.out
              subst e1
              rw [e2, e3, visN_three, rnd_succ_some _ hlt]
              exact Lib.hid rfl
            have hno1 : Hid (∀ j (h : j < V.length), j < k + 1 → de D V[j] = false) := fun j h hjk => by
              rw [hVs.out j (by omega)]
              rcases Nat.lt_succ_iff_lt_or_eq.1 hjk with h1 | h1
              · exact hno.out j (by omega) h1
              · subst h1; rw [← Hsk.out]; exact Hy.out.symm
            obtain ⟨n2, hn2⟩ : ∃ n2, V.length - k = n2 + 1 := ⟨V.length - k - 1, by omega⟩
            rw [hn2, qc_cut hVk] at hq
            obtain ⟨g2, off2, cap2, e2, hnc2, hcap2, _, hqa, hqb⟩ := hq.front
            have hVn2 : V.length - (k + 1) = n2 := by omega
            have HVn2 := Lib.hid hVn2
            injection e2 with e2 e3 e4
            subst e2 e4
            rw [hn2]
            clear hn2 e3 hq hVn2
            by_cases hcz : cap2 = 0
            · have Hq := Lib.hid (hqa hcz)
              obtain rfl : n2 = 0 := by omega
              subst hcz
              clear hqa hqb
              go_wp2
              go_roundg (gk - 1)
              case measure => omega
              case rel => exact ⟨k + 1, V, by omega, by omega, hV1, by rw [HVn2.out]; exact Hq.out, hz, hb, hr, hs, hno1⟩
            · have Hq := Lib.hid (hqb (by omega))
              clear hqa hqb
              go_wp2
              go_roundg (gk - 1)
              case measure => omega
              case rel => exact ⟨k + 1, V, by omega, by omega, hV1, by rw [HVn2.out]; exact Hq.out, hz, hb, hr, hs, hno1⟩
      · have hfin : Hid (hasW (lgD D) ∧ fstW (lgD D) = wS (fk (dn D) 0 s)) := by
          have e := HM.out
          subst e
          have := fst_yes (dn D) (de D) 0 hlt (fun j hj hjk => hno.out j hj hjk) (by rw [← Hsk.out]; exact hy.symm)
          rw [← Hsk.out] at this
          exact this
        have hB := Hb0.out.trans (hb.mono Hb0.out.size)
        clear hq hr hs hno hb hy
        go_wp2
        go_ret2
        rw [hfin.out.2, show fwB (lgD D) = true from pb_true hfin.out.1]
        exact ⟨rfl, hB⟩
    · obtain ⟨ao, cap, rfl, _⟩ := hq.shape
      have hk0 : M.length - k = 0 := by omega
      rw [hk0] at hq ⊢
      have hfin : Hid (¬ hasW (lgD D)) := by
        have := fst_no (dn D) (de D) 0 (k := k) (by rw [← HM.out]; omega) (fun j hj => by
          have e := HM.out
          subst e
          exact hno.out j hj (by omega))
        exact this
      have hB := Hb0.out.trans (hb.mono Hb0.out.size)
      clear hq hr hs hno hb
      go_wp2
      go_ret2
      rw [fstW_no hfin.out, show fwB (lgD D) = false from pb_false hfin.out]
      exact ⟨rfl, hB⟩
end Go.Proofs.Ytcbhfopabgiiiaa
namespace Go.Proofs.Ytcbhfopabgiiiaa
open Go.RowKit
set_option maxRecDepth 100000
variable {S T : Nat → Prop}
theorem pair_few {A B : DfaD} (hA : okD A) (hB : okD B) (k : Nat) : (rnd (pn A B) (0, 0) k).length ≤ 1600 := by
  have hall := rnd_all (pn A B) (P := pst A B) (pst_zero hA hB) (fun s hs => ⟨pst_step hA hB s hs 0 (by omega), pst_step hA hB s hs 1 (by omega), pst_step hA hB s hs 2 (by omega)⟩) k
  have hnd := rnd_nodup (pn A B) (0, 0) k
  generalize rnd (pn A B) (0, 0) k = M at *
  have h1 : (M.map (fun s : Nat × Nat => s.1 * 40 + s.2)).Nodup := by
    refine List.pairwise_iff_getElem.2 fun i j hi hj hij he => ?_
    simp only [List.length_map] at hi hj
    simp only [List.getElem_map] at he
    have p1 := hall _ (List.getElem_mem hi)
    have p2 := hall _ (List.getElem_mem hj)
    have hb := hB.1.2
    have q1 := p1.2
    have q2 := p2.2
    refine List.pairwise_iff_getElem.1 hnd i j hi hj hij ?_
    exact Prod.ext (by omega) (by omega)
  have := nodup_le (n := 1600) h1 (fun x hx => by
    obtain ⟨s, hs, rfl⟩ := List.mem_map.1 hx
    have p1 := hall _ hs
    have ha := hA.1.2
    have hb := hB.1.2
    have q1 := p1.1
    have q2 := p1.2
    omega)
  simpa using this
open Classical in
noncomputable def prV (g : Bool → Bool → Bool) (A B : DfaD) : ByteArray := if okD A ∧ okD B then fstW (lg (pn A B) (pe g A B) (0, 0)) else ByteArray.empty
open Classical in
noncomputable def prB (g : Bool → Bool → Bool) (A B : DfaD) : Bool := if okD A ∧ okD B then fwB (lg (pn A B) (pe g A B) (0, 0)) else false
open Classical in
noncomputable def smB (A B : DfaD) : Bool := if okD A ∧ okD B then !fwB (lg (pn A B) (pe gApart A B) (0, 0)) else false
theorem prV_no {g : Bool → Bool → Bool} {A B : DfaD} (h : ¬ (okD A ∧ okD B)) : prV g A B = ByteArray.empty := if_neg h
theorem prB_no {g : Bool → Bool → Bool} {A B : DfaD} (h : ¬ (okD A ∧ okD B)) : prB g A B = false := if_neg h
theorem pr_yes {g : Bool → Bool → Bool} {A B : DfaD} (hA : okD A) (hB : okD B) : prV g A B = fstW (lg (pn A B) (pe g A B) (0, 0)) ∧ prB g A B = fwB (lg (pn A B) (pe g A B) (0, 0)) := ⟨if_pos ⟨hA, hB⟩, if_pos ⟨hA, hB⟩⟩
theorem smB_no {A B : DfaD} (h : ¬ (okD A ∧ okD B)) : smB A B = false := if_neg h
theorem smB_yes {A B : DfaD} (hA : okD A) (hB : okD B) : smB A B = !fwB (lg (pn A B) (pe gApart A B) (0, 0)) := if_pos ⟨hA, hB⟩
open Classical in
noncomputable def foV (D : DfaD) : ByteArray := if okD D then fstW (lgD D) else ByteArray.empty
open Classical in
noncomputable def foB (D : DfaD) : Bool := if okD D then fwB (lgD D) else false
theorem fo_no {D : DfaD} (h : ¬ okD D) : foV D = ByteArray.empty ∧ foB D = false := ⟨if_neg h, if_neg h⟩
theorem fo_yes {D : DfaD} (h : okD D) : foV D = fstW (lgD D) ∧ foB D = fwB (lgD D) := ⟨if_pos h, if_pos h⟩
set_option maxHeartbeats 1000000 in
theorem FirstOf_c (vn ve : Value) (D : DfaD) (w : World) (h : DfaR S w vn ve D) : Calls Try.prog 20 #[.agg #[vn, ve]] w (RO w (.tuple #[.string (foV D), .bool (foB D)])) := by
  obtain ⟨a, c, b, d, rfl, rfl, hn, hm⟩ := (h).shapes
  obtain ⟨W, hW⟩ : ∃ W, W = w.alloc (.cells #[.slice a D.1.length c, .slice b D.2.length d] 26) := ⟨_, rfl⟩
  have Hb0 : Hid (Below w.heap.size w W) := by rw [hW]; exact (Below.refl _ _).alloc (Nat.le_refl _) _
  have c0 : W.cell? ⟨w.heap.size, 0, none⟩ = some (.slice a D.1.length c) := by rw [hW, World.cell?_alloc_mark]; rfl
  have c1 : W.cell? ⟨w.heap.size, 1, none⟩ = some (.slice b D.2.length d) := by rw [hW, World.cell?_alloc_mark]; rfl
  have K0 : Hid (W.heap[w.heap.size]? = some (.cells #[.slice a D.1.length c, .slice b D.2.length d] 26 (0, 0))) := by rw [hW]; exact blkNew _ _ rfl
  have Hz : Hid (W.heap.size = w.heap.size + 1) := by rw [hW]; simp [Hid]
  have H := Lib.hid ((h).stay (kpB Hb0.out)); clear h
  have HW := Lib.hid hW; clear hW
  rw [HW.out] at c0 c1
  go_enter Try.func20, Try.ntmps20
  go_wp2_with fail
  clear c0 c1
  rw [← HW.out]
  refine (DfaValid_c _ _ D W H.out).mono ?_
  rintro e w1 ⟨ok, rfl, hb1, hok⟩
  have hB := Lib.hid (Hb0.out.trans (hb1.mono Hb0.out.size))
  have H1 := Lib.hid (H.out.stay (kpB hb1))
  obtain ⟨c0, c1, _, _⟩ := blk2 (blkBel hb1 K0.out)
  clear hb1 H HW
  cases ok
  · have hno := Lib.hid (hbF hok)
    clear hok
    go_wp2
    go_ret2
    rw [(fo_no hno.out).1, (fo_no hno.out).2]
    exact ⟨rfl, hB.out⟩
  · have hyes := Lib.hid (hbT hok)
    clear hok
    have hlen : D.1.length ≤ 2000 := by have := hyes.out.1.2; omega
    have Hv := Lib.hid (fo_yes hyes.out)
    go_wp2_with fail
    clear c0 c1
    refine (firstWord_c _ _ D w1 H1.out hyes.out.g hlen).mono ?_
    rintro e w2 ⟨rfl, hb2⟩
    have hB2 := Lib.hid (hB.out.trans (hb2.mono hB.out.size))
    clear hb2
    generalize fstW (lgD D) = q1 at *
    generalize fwB (lgD D) = q2 at *
    go_wp2
    go_ret2
    rw [Hv.out.1, Hv.out.2]
    exact ⟨rfl, hB2.out⟩
end Go.Proofs.Ytcbhfopabgiiiaa
