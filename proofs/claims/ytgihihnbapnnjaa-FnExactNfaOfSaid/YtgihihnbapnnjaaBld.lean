/- Building an automaton: row by row, mark by mark. -/
import Derived.Test.YtgihihnbapnnjaaMrw
import Derived.Test.YtgihihnbapnnjaaDfv
namespace Go.Proofs.Ytgihihnbapnnjaa
open Go.RowKit
set_option maxRecDepth 100000
/-- append of one element, as a step of a region that draws, with the place. -/
theorem stepAppAt {t e : TypeId} {sz bytes : Nat} (E : ElemT t e sz bytes) (hby : bytes ≤ 100) {ops : Array Oper} {o : Oper} {a : Act} {K : Act → World → Prop} {Q : Exit → Act → World → Prop} {E' : Prop} (hgd : o.guard = none) (s x : Operand)
    (ho : o.op = .call { callee := .builtin .append, args := #[s, x], argTypes := #[t, t] })
    (base : Nat) (v : Value) (n : Nat) (xs news : List Value) (w : World) (B : Nat) (hs : a.eval s = v) (hx : a.eval x = .slice (some ⟨B, 0, none⟩) 1 1)
    (hown : w.ownsRow base e sz v n xs) (hnew : w.heap[B]? = some (.cells news.toArray e (0, 0))) (hl : news.length = sz) (h1 : ∀ u ∈ news, u.oneCell' = true) (hn : n ≤ 1000000000) (hbase : base ≤ w.heap.size)
    (h : ∀ g cap w', Hid (w'.ownsRow base e sz (.slice (some ⟨g, 0, none⟩) (n + 1) cap) (n + 1) (xs ++ news)) → w.grownBy w' v.ownBlock → Hid (v.ownBlock = some g ∨ g = w.heap.size) → K (a.put o.dst (.slice (some ⟨g, 0, none⟩) (n + 1) cap)) w') :
    if Region.wanted o (yielded ops a.tmps) = true then Oper.wp Try.prog o a w K Q else E' := by
  obtain ⟨i, z, hi, hz, h2, h3, h4⟩ := E.inf
  refine step_append_lies (P := Try.prog) w hgd s x t ho base e i z sz bytes E.ul hi hz h2 h3 h4 E.pos v n xs hs hown ⟨B, 0, none⟩ 1 1 news hx (by omega) ?_ h1 (by omega) ?_ ?_ hbase _ rfl ?_
  · intro j u hu
    rw [Addr.add_lit, Nat.zero_add, cell_of_row w B j _ _ _ hnew]
    simpa using hu
  · unfold maxLen; omega
  · have : (n + 1) * bytes ≤ 1000000001 * 100 := Nat.mul_le_mul (by omega) hby
    omega
  · intro g cap w' k1 k2 k3 _
    exact h g cap w' k1 k2 k3
/-- A list of numbers that the call made. -/
abbrev OwI (w : World) (base : Nat) (v : Value) (r : List Int) : Prop := w.ownsRow base 3 1 v r.length (r.map (.int .i64 ·))
/-- The automaton in block B4 has the rows rs and the marks es. -/
structure BS (base : Nat) (W : World) (B4 : Nat) (rs : List (Value × List Int)) (es : List Bool) (vN vE : Value) (w : World) : Prop where
  bel : Below base W w
  size : base ≤ w.heap.size
  h4 : base ≤ B4
  b4 : w.heap[B4]? = some (.cells #[vN, vE] 62 (0, 0))
  nx : w.ownsRow base 24 1 vN rs.length (rs.map (·.1))
  en : w.ownsRow base 4 1 vE es.length (es.map .bool)
  rw : ∀ p ∈ rs, 0 < p.2.length ∧ OwI w base p.1 p.2
  inj : (rs.map fun p => p.1.ownBlock).Nodup
section
variable {base : Nat} {W : World} {B4 : Nat} {rs : List (Value × List Int)} {es : List Bool} {vN vE : Value} {w w' : World}
theorem own_some {w : World} {base : Nat} {e : TypeId} {sz : Nat} {v : Value} {n : Nat} {xs : List Value} (h : w.ownsRow base e sz v n xs) (hn : 0 < n) : ∃ g cap, v = .slice (some ⟨g, 0, none⟩) n cap ∧ base ≤ g ∧ ∃ cur, w.heap[g]? = some (.cells cur e (0, 0)) := by
  rcases h.2 with ⟨_, h0⟩ | ⟨g, cap, cur, hv, hb, hg, _⟩
  · omega
  · exact ⟨g, cap, hv, hb, cur, hg⟩
theorem own_cells' {w : World} {base : Nat} {t t' : TypeId} {sz : Nat} {v : Value} {n : Nat} {xs : List Value} (ho : w.ownsRow base t sz v n xs) {b : Nat} {cs : Array Value} {q : Nat × Nat} (hb : w.heap[b]? = some (.cells cs t' q)) (hne : t ≠ t') : some b ≠ v.ownBlock :=
  own_far ho hb (fun cs q he => by injection he with _ he; exact hne he.symm)
/-- A list of ints of the call's own, none of the rows, was written, or nothing that was there. -/
theorem BS.grow (h : BS base W B4 rs es vN vE w) {u : Value} {n : Nat} {xs : List Value} (hu : w.ownsRow base 3 1 u n xs) (hg : w.grownBy w' u.ownBlock) (hne : ∀ p ∈ rs, p.1.ownBlock ≠ u.ownBlock) : BS base W B4 rs es vN vE w' where
  bel := h.bel.grown hg h.size (fun b hb => (own_ge hu b hb).1)
  size := Nat.le_trans h.size hg.size
  h4 := h.h4
  b4 := blkGrow hg h.b4 (own_cells' hu h.b4 (by decide))
  nx := h.nx.kept hg (own_two h.nx hu (by decide))
  en := h.en.kept hg (own_two h.en hu (by decide))
  rw := fun p hp => ⟨(h.rw p hp).1, (h.rw p hp).2.kept hg (.inr (hne p hp))⟩
  inj := h.inj
theorem BS.stay (h : BS base W B4 rs es vN vE w) (hb : Below w.heap.size w w') : BS base W B4 rs es vN vE w' :=
  ⟨h.bel.trans (hb.mono h.size), Nat.le_trans h.size hb.size, h.h4, blkBel hb h.b4, ownStay h.nx hb, ownStay h.en hb, fun p hp => ⟨(h.rw p hp).1, ownStay (h.rw p hp).2 hb⟩, h.inj⟩
theorem BS.drew (h : BS base W B4 rs es vN vE w) : BS base W B4 rs es vN vE w.drew := h.stay (Below.refl _ _).drew
theorem BS.lt (h : BS base W B4 rs es vN vE w) {p : Value × List Int} (hp : p ∈ rs) : ∃ g, p.1.ownBlock = some g ∧ g < w.heap.size := by
  obtain ⟨h1, h2⟩ := h.rw p hp
  obtain ⟨g, cap, e, _, cur, hg⟩ := own_some h2 h1
  exact ⟨g, by rw [e]; rfl, (Array.getElem?_eq_some_iff.1 hg).1⟩
/-- A row more. -/
theorem BS.row (h : BS base W B4 rs es vN vE w) {u : Value} {r : List Int} (hr : 0 < r.length) (hu : OwI w base u r) (hne : ∀ p ∈ rs, p.1.ownBlock ≠ u.ownBlock) {vN' : Value} (hg : w.grownBy w' vN.ownBlock)
    (ho : w'.ownsRow base 24 1 vN' (rs.length + 1) (rs.map (·.1) ++ [u])) : BS base W B4 (rs ++ [(u, r)]) es vN' vE (w'.setCell ⟨B4, 0, none⟩ vN') := by
  have b4 := blkGrow hg h.b4 (own_cells' h.nx h.b4 (by decide))
  have en := h.en.kept hg (own_two h.en h.nx (by decide))
  have rw' : ∀ p ∈ rs ++ [(u, r)], 0 < p.2.length ∧ OwI w' base p.1 p.2 := by
    intro p hp
    have h0 : 0 < p.2.length ∧ OwI w base p.1 p.2 := by
      rcases List.mem_append.1 hp with hp | hp
      · exact h.rw p hp
      · simp at hp; subst hp; exact ⟨hr, hu⟩
    exact ⟨h0.1, h0.2.kept hg (own_two h0.2 h.nx (by decide))⟩
  have hgs := grownSet w' B4 0 vN'
  have hbel := h.bel.grown hg h.size (fun b hb => (own_ge h.nx b hb).1)
  refine ⟨hbel.setCell h.h4 _, Nat.le_trans (Nat.le_trans h.size hg.size) hgs.size, h.h4, by rw [heap_set b4]; rfl, ?_, en.kept hgs (.inr (own_cells' en b4 (by decide)).symm), fun p hp => ⟨(rw' p hp).1, (rw' p hp).2.kept hgs (.inr (own_cells' (rw' p hp).2 b4 (by decide)).symm)⟩, ?_⟩
  · have := ho.kept hgs (.inr (own_cells' ho b4 (by decide)).symm)
    simpa using this
  · rw [List.map_append, List.nodup_append]
    refine ⟨h.inj, by simp, fun a ha b hb => ?_⟩
    obtain ⟨p, hp, rfl⟩ := List.mem_map.1 ha
    simp at hb
    subst hb
    exact hne p hp
/-- A mark more. -/
theorem BS.mark (h : BS base W B4 rs es vN vE w) {x : Bool} {vE' : Value} (hg : w.grownBy w' vE.ownBlock) (ho : w'.ownsRow base 4 1 vE' (es.length + 1) (es.map .bool ++ [.bool x])) :
    BS base W B4 rs (es ++ [x]) vN vE' (w'.setCell ⟨B4, 1, none⟩ vE') := by
  have b4 := blkGrow hg h.b4 (own_cells' h.en h.b4 (by decide))
  have nx := h.nx.kept hg (own_two h.nx h.en (by decide))
  have rw' : ∀ p ∈ rs, 0 < p.2.length ∧ OwI w' base p.1 p.2 := fun p hp => ⟨(h.rw p hp).1, (h.rw p hp).2.kept hg (own_two (h.rw p hp).2 h.en (by decide))⟩
  have hgs := grownSet w' B4 1 vE'
  have hbel := h.bel.grown hg h.size (fun b hb => (own_ge h.en b hb).1)
  refine ⟨hbel.setCell h.h4 _, Nat.le_trans (Nat.le_trans h.size hg.size) hgs.size, h.h4, by rw [heap_set b4]; rfl, nx.kept hgs (.inr (own_cells' nx b4 (by decide)).symm), ?_, fun p hp => ⟨(rw' p hp).1, (rw' p hp).2.kept hgs (.inr (own_cells' (rw' p hp).2 b4 (by decide)).symm)⟩, h.inj⟩
  have := ho.kept hgs (.inr (own_cells' ho b4 (by decide)).symm)
  simpa using this
/-- The automaton that is built, to be read and written. -/
theorem BS.dfa (h : BS base W B4 rs es vN vE w) (hr : 0 < rs.length) (he : 0 < es.length) : DfaW (fun b => (base ≤ b ∧ b < w.heap.size) ∧ b ≠ B4) w vN vE (rs.map (·.2), es) := by
  have hn := h.nx
  have hm := h.en
  obtain ⟨o, cap, rfl, hb, cur, hg⟩ := own_some hn hr
  obtain ⟨q, cap', rfl, hb', cur', hg'⟩ := own_some hm he
  have hoq : o ≠ q := by
    rintro rfl
    rw [hg] at hg'
    injection hg' with hg'
    injection hg' with _ hx
    exact absurd hx (by decide)
  have n8 : ∀ {b : Nat} {cs : Array Value} {t : TypeId} {z : Nat × Nat}, w.heap[b]? = some (.cells cs t z) → t ≠ 62 → b ≠ B4 := fun hb hne he => by
    subst he
    rw [h.b4] at hb
    injection hb with hb
    injection hb with _ hx
    exact hne hx.symm
  have lt8 : ∀ {b : Nat} {ob : Obj}, w.heap[b]? = some ob → b < w.heap.size := fun hb => (Array.getElem?_eq_some_iff.1 hb).1
  have f1 := ownAt hn
  have f2 := ownAt hm
  have hrow : ∀ i (hi : i < rs.length), ∃ g cap, rs[i].1 = .slice (some ⟨g, 0, none⟩) rs[i].2.length cap ∧ base ≤ g ∧ ∃ cur, w.heap[g]? = some (.cells cur 3 (0, 0)) := fun i hi => own_some (h.rw _ (List.getElem_mem hi)).2 (h.rw _ (List.getElem_mem hi)).1
  refine ⟨q, ⟨⟨hb', lt8 hg'⟩, n8 hg' (by decide)⟩, ⟨o, fun i => ((rs.getD i (undef, [])).1.ownBlock).getD 0, fun i => (rs.getD i (undef, [])).1, ⟨⟨⟨hb, lt8 hg⟩, n8 hg (by decide)⟩, hoq⟩, ?_, fun i hi => ?_, fun i j hij hj => ?_⟩, f2⟩
  · have e1 : (List.range (rs.map (·.2)).length).map (fun i => (rs.getD i (undef, [])).1) = rs.map (·.1) := by
      apply List.ext_getElem
      · simp
      · intro i h1 h2
        simp at h1
        simp [List.getD, h1]
    rw [e1]
    simpa using f1
  · simp at hi
    obtain ⟨g, cap, e0, h1, cur, h2⟩ := hrow i hi
    have e1 : rs.getD i (undef, []) = rs[i] := by simp [List.getD, hi]
    have hrw := (h.rw _ (List.getElem_mem hi)).2
    rw [e0] at hrw
    simp only [e1, List.getElem_map]
    rw [e0]
    have hgo : (Value.ownBlock (.slice (some ⟨g, 0, none⟩) rs[i].2.length cap)).getD 0 = g := rfl
    simp only [hgo]
    refine ⟨⟨⟨⟨h1, lt8 h2⟩, n8 h2 (by decide)⟩, ?_⟩, ?_, ownAt hrw⟩
    · rintro rfl
      rw [hg'] at h2
      injection h2 with h2
      injection h2 with _ hx
      exact absurd hx (by decide)
    · rintro rfl
      rw [hg] at h2
      injection h2 with h2
      injection h2 with _ hx
      exact absurd hx (by decide)
  · simp at hj
    have hi : i < rs.length := by omega
    obtain ⟨g, cap, e0, _, _, _⟩ := hrow i hi
    obtain ⟨g', cap', e0', _, _, _⟩ := hrow j hj
    have e1 : rs.getD i (undef, []) = rs[i] := by simp [List.getD, hi]
    have e2 : rs.getD j (undef, []) = rs[j] := by simp [List.getD, hj]
    simp only [e1, e2]
    have := List.pairwise_iff_getElem.1 h.inj i j (by simpa using hi) (by simpa using hj) hij
    simp only [List.getElem_map] at this
    rw [e0, e0'] at this ⊢
    intro hh
    simp [Value.ownBlock] at hh
    exact this (by rw [hh]; rfl)
end
end Go.Proofs.Ytgihihnbapnnjaa
