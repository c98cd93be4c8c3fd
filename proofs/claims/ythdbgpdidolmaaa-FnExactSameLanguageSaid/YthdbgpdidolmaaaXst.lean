/- Exploring: what memory holds on the way. -/
import Derived.Test.YthdbgpdidolmaaaMrw
import Derived.Test.YthdbgpdidolmaaaExq
import Derived.Test.YthdbgpdidolmaaaDfv
namespace Go.Proofs.Ythdbgpdidolmaaa
open Go.RowKit
set_option maxRecDepth 100000
section
variable {α : Type} (kv : α → Value) (cl : α → List Value) (e : TypeId) (sz : Nat)
/-- The state: what was, the result's cells, the map, the states that are met, the automaton's cells, its rows and its marks. -/
structure XS (base : Nat) (W : World) (B8 Bm B13 : Nat) (Mm Mv : List α) (rs : List (Nat × List Int)) (es : List Bool) (vM vN vE : Value) (w : World) : Prop where
  ty : e ≠ 36 ∧ e ≠ 45 ∧ e ≠ 4
  bel : Below base W w
  h8 : base ≤ B8
  hm : base ≤ Bm
  h13 : base ≤ B13
  b8 : w.heap[B8]? = some (.cells #[.slice none 0 0, .slice none 0 0] 36 (0, 0))
  b13 : w.heap[B13]? = some (.cells #[vN, vE] 36 (0, 0))
  ne : B8 ≠ B13
  mp : MRow kv w Bm Mm
  me : w.ownsRow base e sz vM Mv.length (Mv.flatMap cl)
  nx : w.ownsRow base 45 1 vN rs.length (rs.map fun p => .slice (some ⟨p.1, 0, none⟩) 3 3)
  en : w.ownsRow base 4 1 vE es.length (es.map .bool)
  rw : ∀ p ∈ rs, base ≤ p.1 ∧ RowI w p.1 p.2 ∧ some p.1 ≠ vM.ownBlock
  inj : (rs.map (·.1)).Nodup
end
section
variable {α : Type} {kv : α → Value} {cl : α → List Value} {e : TypeId} {sz : Nat} {base : Nat} {W : World} {B8 Bm B13 : Nat} {Mm Mv : List α} {rs : List (Nat × List Int)} {es : List Bool} {vM vN vE : Value} {w w' : World}
theorem XS.size (h : XS kv cl e sz base W B8 Bm B13 Mm Mv rs es vM vN vE w) : base ≤ w.heap.size := Nat.le_of_lt (Nat.lt_of_le_of_lt h.hm h.mp.lt)
/-- A block that is none of these was written. -/
theorem XS.grow (h : XS kv cl e sz base W B8 Bm B13 Mm Mv rs es vM vN vE w) {row : Option Nat} (hg : w.grownBy w' row) (hb : ∀ b, row = some b → base ≤ b)
    (n8 : some B8 ≠ row) (nm : some Bm ≠ row) (n13 : some B13 ≠ row) (nM : vM.ownBlock = none ∨ vM.ownBlock ≠ row) (nN : vN.ownBlock = none ∨ vN.ownBlock ≠ row) (nE : vE.ownBlock = none ∨ vE.ownBlock ≠ row)
    (nr : ∀ p ∈ rs, some p.1 ≠ row) : XS kv cl e sz base W B8 Bm B13 Mm Mv rs es vM vN vE w' where
  ty := h.ty
  bel := h.bel.grown hg h.size hb
  h8 := h.h8
  hm := h.hm
  h13 := h.h13
  b8 := blkGrow hg h.b8 n8
  b13 := blkGrow hg h.b13 n13
  ne := h.ne
  mp := h.mp.grow hg nm
  me := h.me.kept hg nM
  nx := h.nx.kept hg nN
  en := h.en.kept hg nE
  rw := fun p hp => ⟨(h.rw p hp).1, (h.rw p hp).2.1.grow hg (nr p hp), (h.rw p hp).2.2⟩
  inj := h.inj
theorem XS.stay (h : XS kv cl e sz base W B8 Bm B13 Mm Mv rs es vM vN vE w) (hb : Below w.heap.size w w') : XS kv cl e sz base W B8 Bm B13 Mm Mv rs es vM vN vE w' :=
  h.grow (row := none) (grownBel hb) (by simp) (by simp) (by simp) (by simp) (by cases vM.ownBlock <;> simp) (by cases vN.ownBlock <;> simp) (by cases vE.ownBlock <;> simp) (by simp)
theorem XS.drew (h : XS kv cl e sz base W B8 Bm B13 Mm Mv rs es vM vN vE w) : XS kv cl e sz base W B8 Bm B13 Mm Mv rs es vM vN vE w.drew := h.stay (Below.refl _ _).drew
/-- A block of ints of the call's own that is none of the rows: it may be written. -/
theorem XS.cur (h : XS kv cl e sz base W B8 Bm B13 Mm Mv rs es vM vN vE w) {g : Nat} {r : List Int} (hr : RowI w g r) (hg : base ≤ g) (hM : some g ≠ vM.ownBlock) (hne : ∀ p ∈ rs, p.1 ≠ g) (o : Nat) (u : Value) :
    XS kv cl e sz base W B8 Bm B13 Mm Mv rs es vM vN vE (w.setCell ⟨g, o, none⟩ u) := by
  have key : ∀ {b : Nat} {ob : Obj}, w.heap[b]? = some ob → (∀ cs, ob ≠ .cells cs 3 (0, 0)) → some b ≠ some g := fun hb hne he => by
    cases he
    unfold RowI Row at hr
    rw [hb] at hr
    injection hr with hr
    exact hne _ hr
  refine h.grow (grownSet _ _ _ _) (fun b e => by cases e; exact hg) (key h.b8 (fun cs he => by injection he with _ he; exact absurd he (by decide))) (key h.mp (fun cs he => by injection he)) (key h.b13 (fun cs he => by injection he with _ he; exact absurd he (by decide)))
    (.inr (Ne.symm hM)) (.inr ?_) (.inr ?_) (fun p hp he => by cases he; exact hne p hp rfl)
  · exact (own_far h.nx hr (fun cs q he => by injection he with _ he; exact absurd he (by decide))).symm
  · exact (own_far h.en hr (fun cs q he => by injection he with _ he; exact absurd he (by decide))).symm
theorem XS.put (h : XS kv cl e sz base W B8 Bm B13 Mm Mv rs es vM vN vE w) {Mm' : List α} (hg : w.grownBy w' (some Bm)) (hm : MRow kv w' Bm Mm') : XS kv cl e sz base W B8 Bm B13 Mm' Mv rs es vM vN vE w' := by
  have key : ∀ {b : Nat} {cs : Array Value} {t : TypeId} {q : Nat × Nat}, w.heap[b]? = some (.cells cs t q) → some b ≠ some Bm := fun hb he => by
    cases he
    have := h.mp
    unfold MRow at this
    rw [hb] at this
    injection this with this
    injection this
  have far : ∀ {t : TypeId} {sz : Nat} {v : Value} {n : Nat} {xs : List Value}, w.ownsRow base t sz v n xs → v.ownBlock = none ∨ v.ownBlock ≠ some Bm := fun ho => .inr (own_far ho h.mp (fun cs q he => by injection he)).symm
  exact ⟨h.ty, h.bel.grown hg h.size (fun b e => by cases e; exact h.hm), h.h8, h.hm, h.h13, blkGrow hg h.b8 (key h.b8), blkGrow hg h.b13 (key h.b13), h.ne, hm,
    h.me.kept hg (far h.me), h.nx.kept hg (far h.nx), h.en.kept hg (far h.en), fun p hp => ⟨(h.rw p hp).1, (h.rw p hp).2.1.grow hg (key (h.rw p hp).2.1), (h.rw p hp).2.2⟩, h.inj⟩
/-- A state more is met. -/
theorem XS.met (h : XS kv cl e sz base W B8 Bm B13 Mm Mv rs es vM vN vE w) {Mv' : List α} {vM' : Value} (hg : w.grownBy w' vM.ownBlock)
    (ho : w'.ownsRow base e sz vM' Mv'.length (Mv'.flatMap cl)) {B : Nat} (hat : vM'.ownBlock = vM.ownBlock ∨ vM'.ownBlock = some B) (hB : w.heap.size ≤ B) : XS kv cl e sz base W B8 Bm B13 Mm Mv' rs es vM' vN vE w' := by
  have key : ∀ {b : Nat} {ob : Obj}, w.heap[b]? = some ob → (∀ cs q, ob ≠ .cells cs e q) → some b ≠ vM.ownBlock := fun hb hne => own_far h.me hb hne
  obtain ⟨he1, he2, he3⟩ := h.ty
  exact ⟨h.ty, h.bel.grown hg h.size (fun b hb => (own_ge h.me b hb).1), h.h8, h.hm, h.h13, blkGrow hg h.b8 (key h.b8 (fun cs q he => by injection he with _ he; exact he1 he.symm)),
    blkGrow hg h.b13 (key h.b13 (fun cs q he => by injection he with _ he; exact he1 he.symm)), h.ne, h.mp.grow hg (key h.mp (fun cs q he => by injection he)), ho,
    h.nx.kept hg (own_two h.nx h.me (Ne.symm he2)), h.en.kept hg (own_two h.en h.me (Ne.symm he3)),
    fun p hp => ⟨(h.rw p hp).1, (h.rw p hp).2.1.grow hg (h.rw p hp).2.2, by
      rcases hat with h1 | h1
      · rw [h1]; exact (h.rw p hp).2.2
      · rw [h1]
        intro he
        cases he
        have := (h.rw p hp).2.1.lt
        omega⟩, h.inj⟩
/-- Far from the automaton's cells. -/
theorem own_cells {w : World} {base : Nat} {t t' : TypeId} {sz : Nat} {v : Value} {n : Nat} {xs : List Value} (ho : w.ownsRow base t sz v n xs) {b : Nat} {cs : Array Value} {q : Nat × Nat} (hb : w.heap[b]? = some (.cells cs t' q)) (hne : t ≠ t') : some b ≠ v.ownBlock :=
  own_far ho hb (fun cs q he => by injection he with _ he; exact hne he.symm)
/-- A row more. -/
theorem XS.next (h : XS kv cl e sz base W B8 Bm B13 Mm Mv rs es vM vN vE w) {g : Nat} {r : List Int} (hr : RowI w g r) (hgb : base ≤ g) (hM : some g ≠ vM.ownBlock) (hne : ∀ p ∈ rs, p.1 ≠ g) {vN' : Value} (hg : w.grownBy w' vN.ownBlock)
    (ho : w'.ownsRow base 45 1 vN' (rs.length + 1) ((rs.map fun p => .slice (some ⟨p.1, 0, none⟩) 3 3) ++ [.slice (some ⟨g, 0, none⟩) 3 3])) :
    XS kv cl e sz base W B8 Bm B13 Mm Mv (rs ++ [(g, r)]) es vM vN' vE (w'.setCell ⟨B13, 0, none⟩ vN') := by
  obtain ⟨he1, he2, he3⟩ := h.ty
  have b13 := blkGrow hg h.b13 (own_cells h.nx h.b13 (by decide))
  have b8 := blkGrow hg h.b8 (own_cells h.nx h.b8 (by decide))
  have mp := h.mp.grow hg (own_far h.nx h.mp (fun cs q he => by injection he))
  have me := h.me.kept hg (own_two h.me h.nx he2)
  have en := h.en.kept hg (own_two h.en h.nx (by decide))
  have rw' : ∀ p ∈ rs ++ [(g, r)], base ≤ p.1 ∧ RowI w' p.1 p.2 ∧ some p.1 ≠ vM.ownBlock := by
    intro p hp
    have h0 : base ≤ p.1 ∧ RowI w p.1 p.2 ∧ some p.1 ≠ vM.ownBlock := by
      rcases List.mem_append.1 hp with hp | hp
      · exact h.rw p hp
      · simp at hp; subst hp; exact ⟨hgb, hr, hM⟩
    exact ⟨h0.1, h0.2.1.grow hg (own_cells h.nx h0.2.1 (by decide)), h0.2.2⟩
  have hgs := grownSet w' B13 0 vN'
  have hbel := h.bel.grown hg h.size (fun b hb => (own_ge h.nx b hb).1)
  refine ⟨h.ty, hbel.setCell h.h13 _, h.h8, h.hm, h.h13, blkSet b8 h.ne, by rw [heap_set b13]; rfl, h.ne, mp.far (fun he => ?_) _, me.kept hgs (.inr (own_cells me b13 he1).symm), ?_, en.kept hgs (.inr (own_cells en b13 (by decide)).symm), fun p hp => ⟨(rw' p hp).1, (rw' p hp).2.1.far (fun he => ?_) _, (rw' p hp).2.2⟩, ?_⟩
  · unfold MRow at mp
    rw [he, b13] at mp
    injection mp with mp
    injection mp
  · have := ho.kept hgs (.inr (own_cells ho b13 (by decide)).symm)
    simpa using this
  · have hx := (rw' p hp).2.1
    unfold RowI Row at hx
    rw [he, b13] at hx
    injection hx with hx
    injection hx with _ hx
    exact absurd hx (by decide)
  · rw [List.map_append, List.nodup_append]
    refine ⟨h.inj, by simp, fun a ha b hb => ?_⟩
    obtain ⟨p, hp, rfl⟩ := List.mem_map.1 ha
    simp at hb
    subst hb
    exact hne p hp
/-- A mark more. -/
theorem XS.mark (h : XS kv cl e sz base W B8 Bm B13 Mm Mv rs es vM vN vE w) {x : Bool} {vE' : Value} (hg : w.grownBy w' vE.ownBlock) (ho : w'.ownsRow base 4 1 vE' (es.length + 1) (es.map .bool ++ [.bool x])) :
    XS kv cl e sz base W B8 Bm B13 Mm Mv rs (es ++ [x]) vM vN vE' (w'.setCell ⟨B13, 1, none⟩ vE') := by
  obtain ⟨he1, he2, he3⟩ := h.ty
  have b13 := blkGrow hg h.b13 (own_cells h.en h.b13 (by decide))
  have b8 := blkGrow hg h.b8 (own_cells h.en h.b8 (by decide))
  have mp := h.mp.grow hg (own_far h.en h.mp (fun cs q he => by injection he))
  have me := h.me.kept hg (own_two h.me h.en he3)
  have nx := h.nx.kept hg (own_two h.nx h.en (by decide))
  have rw' : ∀ p ∈ rs, base ≤ p.1 ∧ RowI w' p.1 p.2 ∧ some p.1 ≠ vM.ownBlock := fun p hp => ⟨(h.rw p hp).1, (h.rw p hp).2.1.grow hg (own_cells h.en (h.rw p hp).2.1 (by decide)), (h.rw p hp).2.2⟩
  have hgs := grownSet w' B13 1 vE'
  have hbel := h.bel.grown hg h.size (fun b hb => (own_ge h.en b hb).1)
  refine ⟨h.ty, hbel.setCell h.h13 _, h.h8, h.hm, h.h13, blkSet b8 h.ne, by rw [heap_set b13]; rfl, h.ne, mp.far (fun he => ?_) _, me.kept hgs (.inr (own_cells me b13 he1).symm), nx.kept hgs (.inr (own_cells nx b13 (by decide)).symm), ?_, fun p hp => ⟨(rw' p hp).1, (rw' p hp).2.1.far (fun he => ?_) _, (rw' p hp).2.2⟩, h.inj⟩
  · unfold MRow at mp
    rw [he, b13] at mp
    injection mp with mp
    injection mp
  · have := ho.kept hgs (.inr (own_cells ho b13 (by decide)).symm)
    simpa using this
  · have hx := (rw' p hp).2.1
    unfold RowI Row at hx
    rw [he, b13] at hx
    injection hx with hx
    injection hx with _ hx
    exact absurd hx (by decide)
/-- The automaton that is built, to be read and written. -/
theorem XS.dfa (h : XS kv cl e sz base W B8 Bm B13 Mm Mv rs es vM vN vE w) (hr : 0 < rs.length) (he : 0 < es.length) (h3 : ∀ p ∈ rs, p.2.length = 3) : DfaW (fun b => (base ≤ b ∧ b < w.heap.size) ∧ b ≠ B8) w vN vE (rs.map (·.2), es) := by
  have hn := h.nx
  have hm := h.en
  rcases hn.2 with ⟨_, hz⟩ | ⟨o, cap, cur, rfl, hb, hg, _⟩
  · omega
  rcases hm.2 with ⟨_, hz⟩ | ⟨q, cap', cur', rfl, hb', hg', _⟩
  · omega
  have hoq : o ≠ q := by
    rintro rfl
    rw [hg] at hg'
    injection hg' with hg'
    injection hg' with _ hx
    exact absurd hx (by decide)
  have n8 : ∀ {b : Nat} {cs : Array Value} {t : TypeId} {z : Nat × Nat}, w.heap[b]? = some (.cells cs t z) → t ≠ 36 → b ≠ B8 := fun hb hne he => by
    subst he
    rw [h.b8] at hb
    injection hb with hb
    injection hb with _ hx
    exact hne hx.symm
  have lt8 : ∀ {b : Nat} {ob : Obj}, w.heap[b]? = some ob → b < w.heap.size := fun hb => (Array.getElem?_eq_some_iff.1 hb).1
  have f1 := ownAt hn
  have f2 := ownAt hm
  refine ⟨q, ⟨⟨hb', lt8 hg'⟩, n8 hg' (by decide)⟩, ⟨o, fun i => (rs.getD i (0, [])).1, fun i => .slice (some ⟨(rs.getD i (0, [])).1, 0, none⟩) 3 3, ⟨⟨⟨hb, lt8 hg⟩, n8 hg (by decide)⟩, hoq⟩, ?_, fun i hi => ?_, fun i j hij hj => ?_⟩, f2⟩
  · have e1 : (List.range (rs.map (·.2)).length).map (fun i => Value.slice (some ⟨(rs.getD i (0, [])).1, 0, none⟩) 3 3) = rs.map fun p => .slice (some ⟨p.1, 0, none⟩) 3 3 := by
      apply List.ext_getElem
      · simp
      · intro i h1 h2
        simp at h1
        simp [List.getD, h1]
    rw [e1]
    simpa using f1
  · simp at hi
    obtain ⟨h1, h2, _⟩ := h.rw rs[i] (List.getElem_mem hi)
    have hx := h3 rs[i] (List.getElem_mem hi)
    have e1 : rs.getD i (0, []) = rs[i] := by simp [List.getD, hi]
    simp only [e1, List.getElem_map]
    refine ⟨⟨⟨⟨h1, lt8 h2⟩, n8 h2 (by decide)⟩, ?_⟩, ?_, ?_⟩
    · intro hh
      unfold RowI Row at h2
      rw [hh, hg'] at h2
      injection h2 with h2
      injection h2 with _ hx
      exact absurd hx (by decide)
    · intro hh
      unfold RowI Row at h2
      rw [hh, hg] at h2
      injection h2 with h2
      injection h2 with _ hx
      exact absurd hx (by decide)
    · have := Row.flW h2 (n := 3) (cap := 3) hx.symm (Nat.le_refl _) (by unfold maxLen; omega)
      exact this
  · simp at hj
    have hi : i < rs.length := by omega
    have e1 : rs.getD i (0, []) = rs[i] := by simp [List.getD, hi]
    have e2 : rs.getD j (0, []) = rs[j] := by simp [List.getD, hj]
    simp only [e1, e2]
    have := List.pairwise_iff_getElem.1 h.inj i j (by simpa using hi) (by simpa using hj) hij
    simpa using this
end
end Go.Proofs.Ythdbgpdidolmaaa
