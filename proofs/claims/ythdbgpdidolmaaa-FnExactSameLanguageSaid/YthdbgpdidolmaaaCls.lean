/- Classes of states: the reference's. -/
import Derived.Test.YthdbgpdidolmaaaTrm
import Derived.Laws.OwnMore
namespace Go.Proofs.Ythdbgpdidolmaaa
open Go.RowKit
set_option maxRecDepth 100000
variable {S T : Nat → Prop}
/-- f numbers the classes of round k. -/
def krn (D : DfaD) (k : Nat) (f : Nat → Nat) : Prop := ∀ s t, s < D.1.length → t < D.1.length → (f s = f t ↔ eqv D k s t)
theorem krn_zero (D : DfaD) : krn D 0 (fun s => if de D s then 1 else 0) := fun s t _ _ => by
  rw [eqv_zero]
  show (if de D s = true then 1 else 0) = (if de D t = true then 1 else 0) ↔ de D s = de D t
  generalize de D s = x
  generalize de D t = y
  cases x <;> cases y <;> simp
theorem krn_fc (D : DfaD) (k : Nat) : krn D k (fc D k) := fun _ _ _ _ => fc_same D
theorem krn_step {D : DfaD} (hD : okD D) {k : Nat} {f : Nat → Nat} (h : krn D k f) {s t : Nat} (hs : s < D.1.length) (ht : t < D.1.length) :
    eqv D (k + 1) s t ↔ f s = f t ∧ f (dn D s 0) = f (dn D t 0) ∧ f (dn D s 1) = f (dn D t 1) ∧ f (dn D s 2) = f (dn D t 2) := by
  rw [eqv_succ, h s t hs ht, h _ _ (dn_lt hD hs (by omega)) (dn_lt hD ht (by omega)), h _ _ (dn_lt hD hs (by omega)) (dn_lt hD ht (by omega)), h _ _ (dn_lt hD hs (by omega)) (dn_lt hD ht (by omega))]
/-- Nothing has changed: the classes are those of the languages. -/
theorem krn_end {D : DfaD} (hD : okD D) {k : Nat} {f : Nat → Nat} (h : krn D k f) (he : ∀ s t, s < D.1.length → t < D.1.length → eqv D k s t → eqv D (k + 1) s t) {s t : Nat} (hs : s < D.1.length) (ht : t < D.1.length) :
    f s = f t ↔ cls D s = cls D t := by
  rw [h s t hs ht, cls_same]
  exact ⟨eqv_stable D hD he hs ht, eqv_of_lg D⟩
/-- Something has changed: there are more classes. -/
theorem krn_lt {D : DfaD} {k : Nat} (he : ¬ ∀ s t, s < D.1.length → t < D.1.length → eqv D k s t → eqv D (k + 1) s t) : nc D k < nc D (k + 1) := by
  refine nc_lt D fun hh => he fun s t hs ht h => ?_
  exact fc_stable_eqv D hh hs ht h
/-- The first k numbers. -/
def fK (k : Nat) (f : Nat → Nat) : List Value := (List.range k).map fun s => .int .i64 ((f s : Nat) : Int)
theorem fK_len (k : Nat) (f : Nat → Nat) : (fK k f).length = k := by simp [fK]
theorem fK_succ (k : Nat) (f : Nat → Nat) : fK (k + 1) f = fK k f ++ [.int .i64 ((f k : Nat) : Int)] := by simp [fK, List.range_succ]
theorem fK_get {k s : Nat} (f : Nat → Nat) (h : s < k) : (fK k f)[s]? = some (.int .i64 ((f s : Nat) : Int)) := by simp [fK, h]
theorem fK_fL (D : DfaD) (f : Nat → Nat) : fK D.1.length f = (fL D f).map (.int .i64 ·) := by simp [fK, fL]
/-- What the search for an earlier state of the same class has found. -/
def fnd (D : DfaD) (k s j x : Nat) : Prop := (x = s ∧ ∀ t, j ≤ t → t < s → ¬ eqv D k t s) ∨ x = fc D k s
theorem fnd_start (D : DfaD) (k s : Nat) : fnd D k s s s := .inl ⟨rfl, fun t h1 h2 => by omega⟩
theorem fnd_no {D : DfaD} {k s j x : Nat} (h : fnd D k s (j + 1) x) (hn : ¬ eqv D k j s) : fnd D k s j x := by
  rcases h with ⟨e, h⟩ | h
  · refine .inl ⟨e, fun t h1 h2 => ?_⟩
    rcases Nat.eq_or_lt_of_le h1 with rfl | h1
    · exact hn
    · exact h t h1 h2
  · exact .inr h
theorem fnd_yes {D : DfaD} {k s j : Nat} (hy : eqv D k j s) : fnd D k s j (fc D k j) := .inr ((fc_same D).2 hy)
theorem fnd_end {D : DfaD} {k s x : Nat} (h : fnd D k s 0 x) : x = fc D k s := by
  rcases h with ⟨e, h⟩ | h
  · subst e
    exact (fc_eq D (eqv_refl D k x) fun j hj => h j (by omega) hj).symm
  · exact h
/-- Two states whose equality has changed. -/
def chg (f F : Nat → Nat) (j i : Nat) : Prop := ¬ (f j = f i ↔ F j = F i)
theorem krn_stop {D : DfaD} {k : Nat} {f : Nat → Nat} (h : krn D k f) (hn : ¬ ∃ i j, j < i ∧ i < D.1.length ∧ chg f (fc D (k + 1)) j i) :
    ∀ s t, s < D.1.length → t < D.1.length → eqv D k s t → eqv D (k + 1) s t := by
  have key : ∀ s t, s < t → t < D.1.length → eqv D k s t → eqv D (k + 1) s t := fun s t hst ht he => by
    by_cases hc : chg f (fc D (k + 1)) s t
    · exact absurd ⟨t, s, hst, ht, hc⟩ hn
    · have := Classical.not_not.1 hc
      exact (fc_same D).1 (this.1 ((h s t (by omega) ht).2 he))
  intro s t hs ht he
  rcases Nat.lt_trichotomy s t with h1 | rfl | h1
  · exact key s t h1 ht he
  · exact eqv_refl D _ _
  · exact eqv_symm D (key t s h1 hs (eqv_symm D he))
theorem krn_more {D : DfaD} {k : Nat} {f : Nat → Nat} (h : krn D k f) (hn : ∃ i j, j < i ∧ i < D.1.length ∧ chg f (fc D (k + 1)) j i) : nc D k < nc D (k + 1) := by
  refine krn_lt fun he => ?_
  obtain ⟨i, j, h1, h2, h3⟩ := hn
  refine h3 ⟨fun e => (fc_same D).2 (he j i (by omega) h2 ((h j i (by omega) h2).1 e)), fun e => (h j i (by omega) h2).2 ?_⟩
  exact ((eqv_succ D).1 ((fc_same D).1 e)).1
theorem own_fK {w : World} {base g n cap : Nat} {f : Nat → Nat} (ho : w.ownsRow base 3 1 (.slice (some ⟨g, 0, none⟩) n cap) n (fK n f)) {s : Nat} (hs : s < n) :
    w.cell? ⟨g, s, none⟩ = some (.int .i64 ((f s : Nat) : Int)) := by rw [ho.cellAt s (by omega), fK_get f hs]
theorem dint {a b : Nat} : decide (((a : Nat) : Int) = ((b : Nat) : Int)) = true ↔ a = b := by simp; omega
/-- The same class, and the first c moves lead to the same classes. -/
def sameC (D : DfaD) (f : Nat → Nat) (t s c : Nat) : Prop := f t = f s ∧ ∀ l, l < c → f (dn D t l) = f (dn D s l)
theorem sameC_zero (D : DfaD) (f : Nat → Nat) (t s : Nat) : sameC D f t s 0 ↔ f t = f s := ⟨fun h => h.1, fun h => ⟨h, fun l hl => absurd hl (Nat.not_lt_zero _)⟩⟩
theorem sameC_succ (D : DfaD) (f : Nat → Nat) (t s c : Nat) : sameC D f t s (c + 1) ↔ sameC D f t s c ∧ f (dn D t c) = f (dn D s c) := by
  constructor
  · intro h
    exact ⟨⟨h.1, fun l hl => h.2 l (by omega)⟩, h.2 c (by omega)⟩
  · intro h
    refine ⟨h.1.1, fun l hl => ?_⟩
    rcases Nat.lt_succ_iff_lt_or_eq.1 hl with h1 | rfl
    · exact h.1.2 l h1
    · exact h.2
theorem krn_same {D : DfaD} (hD : okD D) {k : Nat} {f : Nat → Nat} (h : krn D k f) {s t : Nat} (ht : t < D.1.length) (hs : s < D.1.length) : sameC D f t s 3 ↔ eqv D (k + 1) t s := by
  rw [krn_step hD h ht hs]
  constructor
  · intro h
    exact ⟨h.1, h.2 0 (by omega), h.2 1 (by omega), h.2 2 (by omega)⟩
  · intro h
    refine ⟨h.1, fun l hl => ?_⟩
    have : l = 0 ∨ l = 1 ∨ l = 2 := by omega
    rcases this with rfl | rfl | rfl
    · exact h.2.1
    · exact h.2.2.1
    · exact h.2.2.2
theorem bint {a b : Nat} : ((((a : Nat) : Int) == ((b : Nat) : Int)) = true) ↔ a = b := by simp; omega
theorem chg_bool (a b c d : Nat) : (((((a : Nat) : Int) == ((b : Nat) : Int)) != (((c : Nat) : Int) == ((d : Nat) : Int))) = true) ↔ ¬ (a = b ↔ c = d) := by
  have h1 := bint (a := a) (b := b)
  have h2 := bint (a := c) (b := d)
  rw [← h1, ← h2]
  generalize (((a : Nat) : Int) == ((b : Nat) : Int)) = x
  generalize (((c : Nat) : Int) == ((d : Nat) : Int)) = y
  cases x <;> cases y <;> decide
theorem chg_more {f F : Nat → Nat} {p : Nat} : (∃ i j, j < i ∧ i < p + 1 ∧ chg f F j i) ↔ (∃ i j, j < i ∧ i < p ∧ chg f F j i) ∨ ∃ j, j < p ∧ chg f F j p := by
  constructor
  · rintro ⟨i, j, h1, h2, h3⟩
    rcases Nat.lt_succ_iff_lt_or_eq.1 h2 with h | rfl
    · exact .inl ⟨i, j, h1, h, h3⟩
    · exact .inr ⟨j, h1, h3⟩
  · rintro (⟨i, j, h1, h2, h3⟩ | ⟨j, h1, h3⟩)
    · exact ⟨i, j, h1, by omega, h3⟩
    · exact ⟨p, j, h1, by omega, h3⟩
theorem chg_next {f F : Nat → Nat} {p q : Nat} {A : Prop} : (A ∨ ∃ j, j < q + 1 ∧ chg f F j p) ↔ ((A ∨ ∃ j, j < q ∧ chg f F j p) ∨ chg f F q p) := by
  constructor
  · rintro (h | ⟨j, h1, h2⟩)
    · exact .inl (.inl h)
    · rcases Nat.lt_succ_iff_lt_or_eq.1 h1 with h | rfl
      · exact .inl (.inr ⟨j, h, h2⟩)
      · exact .inr h2
  · rintro ((h | ⟨j, h1, h2⟩) | h)
    · exact .inl h
    · exact .inr ⟨j, by omega, h2⟩
    · exact .inr ⟨q, by omega, h⟩
end Go.Proofs.Ythdbgpdidolmaaa
