/- Simplified expressions and derivatives, on trees: sizes, languages. Plain. No condition. -/
import Derived.Test.YtbcjhiponbfbnaaLre
set_option linter.unusedSimpArgs false
set_option linter.unusedVariables false
set_option linter.unusedSectionVars false
namespace Go.Proofs.Ytbcjhiponbfbnaa
open Go.RowKit
set_option maxRecDepth 100000
def Re.mkJoin (a b : Re) : Re := if a = .none ∨ b = .none then .none else if a = .empty then b else if b = .empty then a else .join a b
def Re.mkEither (a b : Re) : Re := if a = .none ∨ a = b then b else if b = .none then a else .either a b
def Re.mkBoth (a b : Re) : Re := if a = .none ∨ b = .none then .none else if a = b then a else .both a b
def Re.mkNot : Re → Re
  | .not x => x
  | a => .not a
def Re.mkStar : Re → Re
  | .none => .empty
  | .empty => .empty
  | .star x => .star x
  | a => .star a
/-- Simplified. -/
def Re.smp : Re → Re
  | .none => .none
  | .empty => .empty
  | .letter c => .letter c
  | .join a b => a.smp.mkJoin b.smp
  | .either a b => a.smp.mkEither b.smp
  | .both a b => a.smp.mkBoth b.smp
  | .not a => a.smp.mkNot
  | .star a => a.smp.mkStar
/-- The derivative by a letter. -/
def Re.der (c : Int) : Re → Re
  | .none => .none
  | .empty => .none
  | .letter d => if d = c then .empty else .none
  | .join a b => if a.nul then ((a.der c).mkJoin b.smp).mkEither (b.der c) else (a.der c).mkJoin b.smp
  | .either a b => (a.der c).mkEither (b.der c)
  | .both a b => (a.der c).mkBoth (b.der c)
  | .not a => (a.der c).mkNot
  | .star a => (a.der c).mkJoin (Re.star a).smp
def Re.len (t : Re) : Nat := t.flat.length
theorem len_join (a b : Re) : (Re.join a b).len = a.len + b.len + 1 := by simp [Re.len, Re.flat]; omega
theorem len_either (a b : Re) : (Re.either a b).len = a.len + b.len + 1 := by simp [Re.len, Re.flat]; omega
theorem len_both (a b : Re) : (Re.both a b).len = a.len + b.len + 1 := by simp [Re.len, Re.flat]; omega
theorem len_not (a : Re) : (Re.not a).len = a.len + 1 := by simp [Re.len, Re.flat]
theorem len_star (a : Re) : (Re.star a).len = a.len + 1 := by simp [Re.len, Re.flat]
theorem len_pos (a : Re) : 1 ≤ a.len := a.flat_pos
theorem len_none : Re.none.len = 1 := rfl
theorem len_empty : Re.empty.len = 1 := rfl
theorem len_mkJoin (a b : Re) : (a.mkJoin b).len ≤ a.len + b.len + 1 := by
  have h1 := len_pos a; have h2 := len_pos b
  unfold Re.mkJoin
  split
  · rw [len_none]; omega
  split
  · omega
  split
  · omega
  · rw [len_join]; omega
theorem len_mkEither (a b : Re) : (a.mkEither b).len ≤ a.len + b.len + 1 := by
  unfold Re.mkEither
  split
  · omega
  split
  · omega
  · rw [len_either]; omega
theorem len_mkBoth (a b : Re) : (a.mkBoth b).len ≤ a.len + b.len + 1 := by
  have h1 := len_pos a; have h2 := len_pos b
  unfold Re.mkBoth
  split
  · rw [len_none]; omega
  split
  · omega
  · rw [len_both]; omega
theorem len_mkNot (a : Re) : a.mkNot.len ≤ a.len + 1 := by
  unfold Re.mkNot
  split
  · rw [len_not]; omega
  · rw [len_not]; omega
theorem len_mkStar (a : Re) : a.mkStar.len ≤ a.len + 1 := by
  unfold Re.mkStar
  split
  · rw [len_none, len_empty]; omega
  · rw [len_empty]; omega
  · omega
  · rw [len_star]; omega
theorem len_smp (t : Re) : t.smp.len ≤ t.len := by
  induction t with
  | none => exact Nat.le_refl _
  | empty => exact Nat.le_refl _
  | letter c => exact Nat.le_refl _
  | join a b iha ihb => have := len_mkJoin a.smp b.smp; rw [len_join]; simp only [Re.smp]; omega
  | either a b iha ihb => have := len_mkEither a.smp b.smp; rw [len_either]; simp only [Re.smp]; omega
  | both a b iha ihb => have := len_mkBoth a.smp b.smp; rw [len_both]; simp only [Re.smp]; omega
  | not a iha => have := len_mkNot a.smp; rw [len_not]; simp only [Re.smp]; omega
  | star a iha => have := len_mkStar a.smp; rw [len_star]; simp only [Re.smp]; omega
theorem sq_add (a b : Nat) : (a + b + 1) * (a + b + 1) = a * a + b * b + 2 * (a * b) + 2 * a + 2 * b + 1 := by
  simp only [Nat.mul_add, Nat.add_mul, Nat.mul_one, Nat.one_mul, Nat.mul_comm b a]; omega
theorem sq_one (a : Nat) : (a + 1) * (a + 1) = a * a + 2 * a + 1 := by
  simp only [Nat.mul_add, Nat.add_mul, Nat.mul_one, Nat.one_mul]; omega
theorem len_der (c : Int) (t : Re) : (t.der c).len ≤ t.len * t.len := by
  induction t with
  | none => exact Nat.le_refl _
  | empty => exact Nat.le_refl _
  | letter d => unfold Re.der; split <;> simp [Re.len, Re.flat]
  | join a b iha ihb =>
    have h1 := len_mkJoin (a.der c) b.smp
    have h2 := len_mkEither ((a.der c).mkJoin b.smp) (b.der c)
    have h3 := len_smp b
    have h4 := len_pos a; have h5 := len_pos b
    rw [len_join, sq_add]
    unfold Re.der
    have := Nat.zero_le (a.len * b.len)
    have h6 : 1 ≤ a.len * b.len := Nat.mul_pos h4 h5
    split <;> omega
  | either a b iha ihb =>
    have h1 := len_mkEither (a.der c) (b.der c)
    rw [len_either, sq_add]
    have := Nat.zero_le (a.len * b.len)
    simp only [Re.der]; omega
  | both a b iha ihb =>
    have h1 := len_mkBoth (a.der c) (b.der c)
    rw [len_both, sq_add]
    have := Nat.zero_le (a.len * b.len)
    simp only [Re.der]; omega
  | not a iha =>
    have h1 := len_mkNot (a.der c)
    rw [len_not, sq_one]
    simp only [Re.der]; omega
  | star a iha =>
    have h1 := len_mkJoin (a.der c) (Re.star a).smp
    have h2 := len_smp (Re.star a)
    have h3 := len_star a
    have h4 := len_pos a
    rw [h3, sq_one]
    simp only [Re.der]; omega
theorem mkJoin_wf {a b : Re} (ha : a.wf) (hb : b.wf) : (a.mkJoin b).wf := by
  unfold Re.mkJoin; repeat' split
  · trivial
  · exact hb
  · exact ha
  · exact ⟨ha, hb⟩
theorem mkEither_wf {a b : Re} (ha : a.wf) (hb : b.wf) : (a.mkEither b).wf := by
  unfold Re.mkEither; repeat' split
  · exact hb
  · exact ha
  · exact ⟨ha, hb⟩
theorem mkBoth_wf {a b : Re} (ha : a.wf) (hb : b.wf) : (a.mkBoth b).wf := by
  unfold Re.mkBoth; repeat' split
  · trivial
  · exact ha
  · exact ⟨ha, hb⟩
theorem mkNot_wf {a : Re} (ha : a.wf) : a.mkNot.wf := by unfold Re.mkNot; split <;> exact ha
theorem mkStar_wf {a : Re} (ha : a.wf) : a.mkStar.wf := by
  unfold Re.mkStar; split
  · trivial
  · trivial
  · exact ha
  · exact ha
theorem smp_wf {t : Re} : t.wf → t.smp.wf := by
  induction t with
  | none => exact id
  | empty => exact id
  | letter c => exact id
  | join a b iha ihb => exact fun h => mkJoin_wf (iha h.1) (ihb h.2)
  | either a b iha ihb => exact fun h => mkEither_wf (iha h.1) (ihb h.2)
  | both a b iha ihb => exact fun h => mkBoth_wf (iha h.1) (ihb h.2)
  | not a iha => exact fun h => mkNot_wf (iha h)
  | star a iha => exact fun h => mkStar_wf (iha h)
theorem der_wf (c : Int) {t : Re} : t.wf → (t.der c).wf := by
  induction t with
  | none => exact id
  | empty => exact id
  | letter d => intro _; unfold Re.der; split <;> trivial
  | join a b iha ihb =>
    intro h; unfold Re.der; split
    · exact mkEither_wf (mkJoin_wf (iha h.1) (smp_wf h.2)) (ihb h.2)
    · exact mkJoin_wf (iha h.1) (smp_wf h.2)
  | either a b iha ihb => exact fun h => mkEither_wf (iha h.1) (ihb h.2)
  | both a b iha ihb => exact fun h => mkBoth_wf (iha h.1) (ihb h.2)
  | not a iha => exact fun h => mkNot_wf (iha h)
  | star a iha => exact fun h => mkJoin_wf (iha h) (smp_wf (t := .star a) h)
theorem Stl.of_iff {L M : List Int → Prop} (h : ∀ w, L w ↔ M w) {w : List Int} (hw : Stl L w) : Stl M w := by
  induction hw with
  | nil => exact .nil
  | app hu _ ih => exact .app ((h _).1 hu) ih
theorem Stl.cong {L M : List Int → Prop} (h : ∀ w, L w ↔ M w) (w : List Int) : Stl L w ↔ Stl M w := ⟨Stl.of_iff h, Stl.of_iff fun w => (h w).symm⟩
theorem Stl.idem {L : List Int → Prop} {w : List Int} (h : Stl (Stl L) w) : Stl L w := by
  induction h with
  | nil => exact .nil
  | app hu _ ih => exact hu.trans ih
theorem mkJoin_lang (a b : Re) (w : List Int) : (a.mkJoin b).lang w ↔ (Re.join a b).lang w := by
  unfold Re.mkJoin
  split
  · rename_i h
    refine ⟨fun h => h.elim, ?_⟩
    rintro ⟨u, v, rfl, hu, hv⟩
    rcases h with rfl | rfl
    · exact hu
    · exact hv
  split
  · rename_i h; subst h
    refine ⟨fun h => ⟨[], w, rfl, rfl, h⟩, ?_⟩
    rintro ⟨u, v, rfl, hu, hv⟩
    cases hu
    exact hv
  split
  · rename_i h; subst h
    refine ⟨fun h => ⟨w, [], by simp, h, rfl⟩, ?_⟩
    rintro ⟨u, v, rfl, hu, hv⟩
    cases hv
    simpa using hu
  · exact Iff.rfl
theorem mkEither_lang (a b : Re) (w : List Int) : (a.mkEither b).lang w ↔ (Re.either a b).lang w := by
  unfold Re.mkEither
  split
  · rename_i h
    refine ⟨fun h => .inr h, ?_⟩
    rintro (hu | hu)
    · rcases h with rfl | rfl
      · exact hu.elim
      · exact hu
    · exact hu
  split
  · rename_i h; subst h
    exact ⟨fun h => .inl h, fun h => h.elim id False.elim⟩
  · exact Iff.rfl
theorem mkBoth_lang (a b : Re) (w : List Int) : (a.mkBoth b).lang w ↔ (Re.both a b).lang w := by
  unfold Re.mkBoth
  split
  · rename_i h
    refine ⟨fun h => h.elim, ?_⟩
    rintro ⟨hu, hv⟩
    rcases h with rfl | rfl
    · exact hu
    · exact hv
  split
  · rename_i h; subst h
    exact ⟨fun h => ⟨h, h⟩, fun h => h.1⟩
  · exact Iff.rfl
theorem mkNot_lang (a : Re) (w : List Int) : a.mkNot.lang w ↔ (Re.not a).lang w := by
  unfold Re.mkNot
  split
  · simp only [Re.lang, Classical.not_not]
  · exact Iff.rfl
theorem mkStar_lang (a : Re) (w : List Int) : a.mkStar.lang w ↔ (Re.star a).lang w := by
  unfold Re.mkStar
  split
  · refine ⟨fun h => by cases h; exact Stl.nil, fun h => ?_⟩
    rcases Stl.cons h with rfl | ⟨u, v, _, _, hu, _⟩
    · rfl
    · exact hu.elim
  · refine ⟨fun h => by cases h; exact Stl.nil, fun h => ?_⟩
    rcases Stl.cons h with rfl | ⟨u, v, _, hn, hu, _⟩
    · rfl
    · exact absurd hu hn
  · exact ⟨fun h => Stl.one h, fun h => Stl.idem h⟩
  · exact Iff.rfl
theorem smp_lang (t : Re) : ∀ w, t.smp.lang w ↔ t.lang w := by
  induction t with
  | none => exact fun _ => Iff.rfl
  | empty => exact fun _ => Iff.rfl
  | letter c => exact fun _ => Iff.rfl
  | join a b iha ihb => intro w; refine (mkJoin_lang _ _ _).trans ?_; simp only [Re.lang, iha, ihb]
  | either a b iha ihb => intro w; refine (mkEither_lang _ _ _).trans ?_; simp only [Re.lang, iha, ihb]
  | both a b iha ihb => intro w; refine (mkBoth_lang _ _ _).trans ?_; simp only [Re.lang, iha, ihb]
  | not a iha => intro w; refine (mkNot_lang _ _).trans ?_; simp only [Re.lang, iha]
  | star a iha => intro w; refine (mkStar_lang _ _).trans ?_; exact Stl.cong iha w
/-- The derivative has the words behind the letter. -/
theorem der_lang (c : Int) (t : Re) : ∀ w, (t.der c).lang w ↔ t.lang (c :: w) := by
  induction t with
  | none => exact fun _ => Iff.rfl
  | empty => exact fun w => ⟨fun h => h.elim, nofun⟩
  | letter d =>
    intro w; unfold Re.der; split
    · rename_i h; subst h; simp [Re.lang]
    · rename_i h; simp only [Re.lang, false_iff, List.cons.injEq]; exact fun h' => h h'.1.symm
  | join a b iha ihb =>
    intro w
    have hj : ((a.der c).mkJoin b.smp).lang w ↔ ∃ u v, w = u ++ v ∧ a.lang (c :: u) ∧ b.lang v := by
      refine (mkJoin_lang _ _ _).trans ?_; simp only [Re.lang, iha, smp_lang]
    unfold Re.der
    split
    · rename_i hn
      refine (mkEither_lang _ _ _).trans ?_
      simp only [Re.lang, hj, ihb]
      constructor
      · rintro (⟨u, v, rfl, hu, hv⟩ | h)
        · exact ⟨c :: u, v, rfl, hu, hv⟩
        · exact ⟨[], c :: w, rfl, (nul_lang a).1 hn, h⟩
      · rintro ⟨u, v, he, hu, hv⟩
        rcases u with _ | ⟨x, u⟩
        · simp only [List.nil_append] at he; subst he; exact .inr hv
        · simp only [List.cons_append, List.cons.injEq] at he; obtain ⟨rfl, rfl⟩ := he; exact .inl ⟨u, v, rfl, hu, hv⟩
    · rename_i hn
      refine hj.trans ?_
      simp only [Re.lang]
      constructor
      · rintro ⟨u, v, rfl, hu, hv⟩; exact ⟨c :: u, v, rfl, hu, hv⟩
      · rintro ⟨u, v, he, hu, hv⟩
        rcases u with _ | ⟨x, u⟩
        · exact absurd ((nul_lang a).2 hu) hn
        · simp only [List.cons_append, List.cons.injEq] at he; obtain ⟨rfl, rfl⟩ := he; exact ⟨u, v, rfl, hu, hv⟩
  | either a b iha ihb => intro w; refine (mkEither_lang _ _ _).trans ?_; simp only [Re.lang, iha, ihb]
  | both a b iha ihb => intro w; refine (mkBoth_lang _ _ _).trans ?_; simp only [Re.lang, iha, ihb]
  | not a iha => intro w; refine (mkNot_lang _ _).trans ?_; simp only [Re.lang, iha]
  | star a iha =>
    intro w
    refine (mkJoin_lang _ _ _).trans ?_
    simp only [Re.lang, iha, smp_lang]
    constructor
    · rintro ⟨u, v, rfl, hu, hv⟩; exact Stl.app hu hv
    · intro h
      rcases Stl.cons h with h | ⟨u, v, he, hn, hu, hv⟩
      · cases h
      · rcases u with _ | ⟨x, u⟩
        · exact absurd rfl hn
        · simp only [List.cons_append, List.cons.injEq] at he; obtain ⟨rfl, rfl⟩ := he; exact ⟨u, v, rfl, hu, hv⟩
/-- The derivative by a word, as long as it is possible (at most 60 parts each). -/
def derW : List Int → Re → Option Re
  | [], t => some t
  | c :: w, t => if (t.der c).len ≤ 60 then derW w (t.der c) else none
theorem derW_snoc (w : List Int) (c : Int) : ∀ t, derW (w ++ [c]) t = (derW w t).bind fun u => if (u.der c).len ≤ 60 then some (u.der c) else none := by
  induction w with
  | nil => intro t; simp only [List.nil_append, derW, Option.bind_some]
  | cons d w ih =>
    intro t
    simp only [List.cons_append, derW]
    split
    · exact ih _
    · rfl
theorem derW_lang {w : List Int} : ∀ {t u : Re}, derW w t = some u → ∀ v, u.lang v ↔ t.lang (w ++ v) := by
  induction w with
  | nil => intro t u h v; cases h; exact Iff.rfl
  | cons c w ih =>
    intro t u h v
    simp only [derW] at h
    split at h
    · rw [ih h]; exact der_lang c t _
    · cases h
theorem derW_wf {w : List Int} : ∀ {t u : Re}, derW w t = some u → t.wf → u.wf := by
  induction w with
  | nil => intro t u h ht; cases h; exact ht
  | cons c w ih =>
    intro t u h ht
    simp only [derW] at h
    split at h
    · exact ih h (der_wf c ht)
    · cases h
theorem derW_len {w : List Int} : ∀ {t u : Re}, derW w t = some u → t.len ≤ 60 → u.len ≤ 60 := by
  induction w with
  | nil => intro t u h ht; cases h; exact ht
  | cons c w ih =>
    intro t u h ht
    simp only [derW] at h
    split at h
    · rename_i hl; exact ih h hl
    · cases h
end Go.Proofs.Ytbcjhiponbfbnaa
