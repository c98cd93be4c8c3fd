/- The automaton of the positions: what it is. -/
import Derived.Test.YtbcjhiponbfbnaaFsp
import Derived.Test.YtbcjhiponbfbnaaLpl
import Derived.Test.YtbcjhiponbfbnaaEjd
set_option linter.unusedSimpArgs false
set_option linter.unusedVariables false
set_option linter.unusedSectionVars false
namespace Go.Proofs.Ytbcjhiponbfbnaa
open Go.RowKit
set_option maxRecDepth 100000
/-- All pairs. -/
def prodL (xs ys : List Int) : List (Int × Int) := xs.flatMap fun a => ys.map fun b => (a, b)
/-- The pairs of letters that follow each other, where the expression begins at f. -/
def Re.fol : Re → Int → List (Int × Int)
  | .none, _ => []
  | .empty, _ => []
  | .letter _, _ => []
  | .join a b, f => a.fol f ++ b.fol (f + a.flat.length) ++ prodL (a.lps f) (b.fps (f + a.flat.length))
  | .either a b, f => a.fol f ++ b.fol (f + a.flat.length)
  | .both a b, f => a.fol f ++ b.fol (f + a.flat.length)
  | .not a, f => a.fol f
  | .star a, f => a.fol f ++ prodL (a.lps f) (a.fps f)
theorem mem_prodL {xs ys : List Int} {p : Int × Int} : p ∈ prodL xs ys ↔ p.1 ∈ xs ∧ p.2 ∈ ys := by
  obtain ⟨x, y⟩ := p
  simp [prodL]
/-- The part with a number is a letter, where the list begins at f. -/
def isLet (e : List (Int × Int)) (f x : Int) : Prop := f ≤ x ∧ x < f + e.length ∧ (e.getD (x - f).toNat (0, 0)).1 = 3
theorem isLet.left {e e' : List (Int × Int)} {f x : Int} (h : isLet e f x) : isLet (e ++ e') f x := by
  obtain ⟨h1, h2, h3⟩ := h
  refine ⟨h1, by rw [List.length_append]; omega, ?_⟩
  rw [List.getD_eq_getElem?_getD, List.getElem?_append_left (by omega), ← List.getD_eq_getElem?_getD]; exact h3
theorem isLet.right {e e' : List (Int × Int)} {f x : Int} (h : isLet e' (f + e.length) x) : isLet (e ++ e') f x := by
  obtain ⟨h1, h2, h3⟩ := h
  refine ⟨by omega, by rw [List.length_append]; omega, ?_⟩
  rw [List.getD_eq_getElem?_getD, List.getElem?_append_right (by omega), ← List.getD_eq_getElem?_getD]
  rw [show (x - f).toNat - e.length = (x - (f + e.length)).toNat by omega]; exact h3
theorem fps_let (t : Re) : ∀ f : Int, ∀ x ∈ t.fps f, isLet t.flat f x := by
  induction t with
  | none => intro f x h; cases h
  | empty => intro f x h; cases h
  | letter c =>
    intro f x h
    simp [Re.fps] at h; subst h
    exact ⟨by omega, by simp [Re.flat]; omega, by simp [Re.flat]⟩
  | join a b iha ihb =>
    intro f x h
    unfold Re.fps at h
    split at h
    · rcases List.mem_append.1 h with h | h
      · exact ((iha f x h).left).left
      · exact ((ihb _ x h).right).left
    · exact ((iha f x h).left).left
  | either a b iha ihb =>
    intro f x h
    rcases List.mem_append.1 h with h | h
    · exact ((iha f x h).left).left
    · exact ((ihb _ x h).right).left
  | both a b iha ihb => intro f x h; exact ((iha f x h).left).left
  | not a iha => intro f x h; exact (iha f x h).left
  | star a iha => intro f x h; exact (iha f x h).left
theorem lps_let (t : Re) : ∀ f : Int, ∀ x ∈ t.lps f, isLet t.flat f x := by
  induction t with
  | none => intro f x h; cases h
  | empty => intro f x h; cases h
  | letter c =>
    intro f x h
    simp [Re.lps] at h; subst h
    exact ⟨by omega, by simp [Re.flat]; omega, by simp [Re.flat]⟩
  | join a b iha ihb =>
    intro f x h
    unfold Re.lps at h
    split at h
    · rcases List.mem_append.1 h with h | h
      · exact ((iha f x h).left).left
      · exact ((ihb _ x h).right).left
    · exact ((ihb _ x h).right).left
  | either a b iha ihb =>
    intro f x h
    rcases List.mem_append.1 h with h | h
    · exact ((iha f x h).left).left
    · exact ((ihb _ x h).right).left
  | both a b iha ihb => intro f x h; exact ((iha f x h).left).left
  | not a iha => intro f x h; exact (iha f x h).left
  | star a iha => intro f x h; exact (iha f x h).left
theorem fol_let (t : Re) : ∀ f : Int, ∀ p ∈ t.fol f, isLet t.flat f p.1 ∧ isLet t.flat f p.2 := by
  induction t with
  | none => intro f x h; cases h
  | empty => intro f x h; cases h
  | letter c => intro f x h; cases h
  | join a b iha ihb =>
    intro f x h
    unfold Re.fol at h
    rcases List.mem_append.1 h with h | h
    · rcases List.mem_append.1 h with h | h
      · exact ⟨((iha f x h).1.left).left, ((iha f x h).2.left).left⟩
      · exact ⟨((ihb _ x h).1.right).left, ((ihb _ x h).2.right).left⟩
    · have := mem_prodL.1 h
      exact ⟨((lps_let a f _ this.1).left).left, ((fps_let b _ _ this.2).right).left⟩
  | either a b iha ihb =>
    intro f x h
    unfold Re.fol at h
    rcases List.mem_append.1 h with h | h
    · exact ⟨((iha f x h).1.left).left, ((iha f x h).2.left).left⟩
    · exact ⟨((ihb _ x h).1.right).left, ((ihb _ x h).2.right).left⟩
  | both a b iha ihb =>
    intro f x h
    unfold Re.fol at h
    rcases List.mem_append.1 h with h | h
    · exact ⟨((iha f x h).1.left).left, ((iha f x h).2.left).left⟩
    · exact ⟨((ihb _ x h).1.right).left, ((ihb _ x h).2.right).left⟩
  | not a iha => intro f x h; exact ⟨(iha f x h).1.left, (iha f x h).2.left⟩
  | star a iha =>
    intro f x h
    unfold Re.fol at h
    rcases List.mem_append.1 h with h | h
    · exact ⟨(iha f x h).1.left, (iha f x h).2.left⟩
    · have := mem_prodL.1 h
      exact ⟨(lps_let a f _ this.1).left, (fps_let a _ _ this.2).left⟩
theorem mem_lpk {e : List (Int × Int)} {k : Nat} {x : Int} : x ∈ lpk e k ↔ 0 ≤ x ∧ x < k ∧ (e.getD x.toNat (0, 0)).1 = 3 := by
  unfold lpk
  rw [List.mem_map]
  constructor
  · rintro ⟨i, hi, rfl⟩
    rw [List.mem_filter, List.mem_range] at hi
    exact ⟨by omega, by omega, by simpa using hi.2⟩
  · rintro ⟨h1, h2, h3⟩
    exact ⟨x.toNat, by rw [List.mem_filter, List.mem_range]; exact ⟨by omega, by simpa using h3⟩, by omega⟩
theorem let_lpk {e : List (Int × Int)} {x : Int} (h : isLet e 0 x) : x ∈ lpk e e.length := by
  obtain ⟨h1, h2, h3⟩ := h
  rw [mem_lpk]
  simp at h2 h3
  exact ⟨h1, h2, h3⟩
theorem lpk_asc (e : List (Int × Int)) (k : Nat) : (lpk e k).Pairwise (· < ·) := by
  unfold lpk
  rw [List.pairwise_map]
  exact ((List.pairwise_lt_range (n := k)).filter _).imp (fun h => by omega)
theorem asc_eq : ∀ {xs ys : List Int}, xs.Pairwise (· < ·) → ys.Pairwise (· < ·) → (∀ x, x ∈ xs ↔ x ∈ ys) → xs = ys := by
  intro xs
  induction xs with
  | nil =>
    intro ys _ _ h
    cases ys with
    | nil => rfl
    | cons y ys => exact absurd ((h y).2 (List.mem_cons_self ..)) List.not_mem_nil
  | cons x xs ih =>
    intro ys hx hy h
    cases ys with
    | nil => exact absurd ((h x).1 (List.mem_cons_self ..)) List.not_mem_nil
    | cons y ys =>
      rw [List.pairwise_cons] at hx hy
      have e : x = y := by
        rcases List.mem_cons.1 ((h x).1 (List.mem_cons_self ..)) with e | m
        · exact e
        · rcases List.mem_cons.1 ((h y).2 (List.mem_cons_self ..)) with e | m'
          · exact e.symm
          · have := hx.1 y m'; have := hy.1 x m; omega
      subst e
      congr 1
      refine ih hx.2 hy.2 fun z => ?_
      constructor
      · intro hz
        rcases List.mem_cons.1 ((h z).1 (List.mem_cons_of_mem _ hz)) with e | m
        · have := hx.1 z hz; omega
        · exact m
      · intro hz
        rcases List.mem_cons.1 ((h z).2 (List.mem_cons_of_mem _ hz)) with e | m
        · have := hy.1 z hz; omega
        · exact m
/-- Whether there is a move from a state to another one: F the first letters, L the pairs, pl the places. -/
def ttM (F : List Int) (L : List (Int × Int)) (pl : List Int) (i j : Nat) : Bool :=
  decide (1 ≤ j ∧ j ≤ pl.length ∧ ((i = 0 ∧ pl.getD (j - 1) 0 ∈ F) ∨ (1 ≤ i ∧ i ≤ pl.length ∧ (pl.getD (i - 1) 0, pl.getD (j - 1) 0) ∈ L)))
theorem ttM_nil (pl : List Int) (i j : Nat) : ttM [] [] pl i j = false := by simp [ttM]
theorem nodup_asc {pl : List Int} (h : pl.Pairwise (· < ·)) : pl.Nodup := h.imp (fun h => by omega)
theorem getD_idx {pl : List Int} {x : Int} (h : x ∈ pl) : pl.getD (pl.idxOf x) 0 = x := by
  rw [List.getD_eq_getElem?_getD, List.getElem?_eq_getElem (List.idxOf_lt_length_of_mem h)]; simp
theorem idx_getD {pl : List Int} (hn : pl.Pairwise (· < ·)) {k : Nat} (hk : k < pl.length) : pl.idxOf (pl.getD k 0) = k := by
  have hk' : pl.idxOf pl[k] < pl.length := List.idxOf_lt_length_of_mem (List.getElem_mem hk)
  rw [List.getD_eq_getElem?_getD, List.getElem?_eq_getElem hk, Option.getD_some]
  have e := List.getElem_idxOf hk'
  rcases Nat.lt_trichotomy (pl.idxOf pl[k]) k with h | h | h
  · have := List.pairwise_iff_getElem.1 hn _ _ hk' hk h; omega
  · exact h
  · have := List.pairwise_iff_getElem.1 hn _ _ hk hk' h; omega
theorem ttM_first {F : List Int} {L : List (Int × Int)} {pl : List Int} (hn : pl.Pairwise (· < ·)) {b : Int} (hb : b ∈ pl) (i j : Nat) :
    ttM (F ++ [b]) L pl i j = if i = 0 ∧ j = pl.idxOf b + 1 then true else ttM F L pl i j := by
  have hlt := List.idxOf_lt_length_of_mem hb
  split
  · rename_i h
    obtain ⟨rfl, rfl⟩ := h
    simp only [ttM, decide_eq_true_eq]
    refine ⟨by omega, by omega, .inl ⟨trivial, ?_⟩⟩
    rw [Nat.add_sub_cancel, getD_idx hb]; simp
  · rename_i h
    simp only [ttM]
    refine decide_eq_decide.2 ⟨?_, ?_⟩
    · rintro ⟨h1, h2, ⟨h3, h4⟩ | h3⟩
      · refine ⟨h1, h2, .inl ⟨h3, ?_⟩⟩
        rcases List.mem_append.1 h4 with h4 | h4
        · exact h4
        · rw [List.mem_singleton] at h4
          exact absurd ⟨h3, by have := idx_getD hn (k := j - 1) (by omega); rw [h4] at this; omega⟩ h
      · exact ⟨h1, h2, .inr h3⟩
    · rintro ⟨h1, h2, ⟨h3, h4⟩ | h3⟩
      · exact ⟨h1, h2, .inl ⟨h3, List.mem_append_left _ h4⟩⟩
      · exact ⟨h1, h2, .inr h3⟩
theorem ttM_pair {F : List Int} {L : List (Int × Int)} {pl : List Int} (hn : pl.Pairwise (· < ·)) {a b : Int} (ha : a ∈ pl) (hb : b ∈ pl) (i j : Nat) :
    ttM F (L ++ [(a, b)]) pl i j = if i = pl.idxOf a + 1 ∧ j = pl.idxOf b + 1 then true else ttM F L pl i j := by
  have hlt := List.idxOf_lt_length_of_mem hb
  have hla := List.idxOf_lt_length_of_mem ha
  split
  · rename_i h
    obtain ⟨rfl, rfl⟩ := h
    simp only [ttM, decide_eq_true_eq]
    refine ⟨by omega, by omega, .inr ⟨by omega, by omega, ?_⟩⟩
    rw [Nat.add_sub_cancel, Nat.add_sub_cancel, getD_idx hb, getD_idx ha]; simp
  · rename_i h
    simp only [ttM]
    refine decide_eq_decide.2 ⟨?_, ?_⟩
    · rintro ⟨h1, h2, h3 | ⟨h3, h5, h4⟩⟩
      · exact ⟨h1, h2, .inl h3⟩
      · refine ⟨h1, h2, .inr ⟨h3, h5, ?_⟩⟩
        rcases List.mem_append.1 h4 with h4 | h4
        · exact h4
        · rw [List.mem_singleton, Prod.mk.injEq] at h4
          refine absurd ⟨?_, ?_⟩ h
          · have := idx_getD hn (k := i - 1) (by omega); rw [h4.1] at this; omega
          · have := idx_getD hn (k := j - 1) (by omega); rw [h4.2] at this; omega
    · rintro ⟨h1, h2, h3 | ⟨h3, h5, h4⟩⟩
      · exact ⟨h1, h2, .inl h3⟩
      · exact ⟨h1, h2, .inr ⟨h3, h5, List.mem_append_left _ h4⟩⟩
/-- The moves from a state, to the states below j. -/
def pRow (e : List (Int × Int)) (F : List Int) (L : List (Int × Int)) (pl : List Int) (i j : Nat) : List (Int × Int × Int) :=
  ((List.range j).filter (ttM F L pl i)).map fun k : Nat => ((i : Int), (e.getD (pl.getD (k - 1) 0).toNat (0, 0)).2, (k : Int))
/-- The moves from the states below i. -/
def pMvs (e : List (Int × Int)) (F : List Int) (L : List (Int × Int)) (pl : List Int) (i : Nat) : List (Int × Int × Int) :=
  (List.range i).flatMap fun k => pRow e F L pl k (pl.length + 1)
theorem pRow_step (e : List (Int × Int)) (F : List Int) (L : List (Int × Int)) (pl : List Int) (i j : Nat) :
    pRow e F L pl i (j + 1) = if ttM F L pl i j = true then pRow e F L pl i j ++ [((i : Int), (e.getD (pl.getD (j - 1) 0).toNat (0, 0)).2, (j : Int))] else pRow e F L pl i j := by
  unfold pRow
  rw [List.range_succ, List.filter_append, List.map_append]
  split
  · rename_i h; simp [h]
  · rename_i h; simp [h]
theorem pRow_one (e : List (Int × Int)) (F : List Int) (L : List (Int × Int)) (pl : List Int) (i : Nat) : pRow e F L pl i 1 = [] := by
  rw [pRow_step, if_neg (by simp [ttM])]; rfl
theorem pMvs_step (e : List (Int × Int)) (F : List Int) (L : List (Int × Int)) (pl : List Int) (i : Nat) : pMvs e F L pl (i + 1) = pMvs e F L pl i ++ pRow e F L pl i (pl.length + 1) := by
  unfold pMvs; rw [List.range_succ, List.flatMap_append]; simp
theorem pRow_len (e : List (Int × Int)) (F : List Int) (L : List (Int × Int)) (pl : List Int) (i j : Nat) : (pRow e F L pl i j).length ≤ j := by
  unfold pRow; rw [List.length_map]; have := List.length_filter_le (ttM F L pl i) (List.range j); simpa using this
theorem pMvs_len (e : List (Int × Int)) (F : List Int) (L : List (Int × Int)) (pl : List Int) (i : Nat) : (pMvs e F L pl i).length ≤ i * (pl.length + 1) := by
  induction i with
  | zero => simp [pMvs]
  | succ i ih => rw [pMvs_step, List.length_append]; have := pRow_len e F L pl i (pl.length + 1); rw [Nat.succ_mul]; omega
/-- The states of the last letters, those below i (state 0 apart). -/
def pEnd (Z : List Int) (pl : List Int) (i : Nat) : List Int := ((List.range i).filter fun k => decide (1 ≤ k ∧ pl.getD (k - 1) 0 ∈ Z)).map fun k : Nat => (k : Int)
theorem pEnd_step (Z pl : List Int) (i : Nat) : pEnd Z pl (i + 1) = if 1 ≤ i ∧ pl.getD (i - 1) 0 ∈ Z then pEnd Z pl i ++ [(i : Int)] else pEnd Z pl i := by
  unfold pEnd
  rw [List.range_succ, List.filter_append, List.map_append]
  split
  · rename_i h
    have e : List.filter (fun k : Nat => decide (1 ≤ k ∧ pl.getD (k - 1) 0 ∈ Z)) [i] = [i] := List.filter_cons_of_pos (p := fun k : Nat => decide (1 ≤ k ∧ pl.getD (k - 1) 0 ∈ Z)) (decide_eq_true h)
    rw [e]; rfl
  · rename_i h
    have e : List.filter (fun k : Nat => decide (1 ≤ k ∧ pl.getD (k - 1) 0 ∈ Z)) [i] = [] := List.filter_cons_of_neg (p := fun k : Nat => decide (1 ≤ k ∧ pl.getD (k - 1) 0 ∈ Z)) (by rw [decide_eq_true_eq]; exact h)
    rw [e]; simp
theorem pEnd_asc (Z pl : List Int) (i : Nat) : (pEnd Z pl i).Pairwise (· < ·) := by
  unfold pEnd
  rw [List.pairwise_map]
  exact ((List.pairwise_lt_range (n := i)).filter _).imp (fun h => by omega)
theorem mem_pEnd {Z pl : List Int} {i : Nat} {x : Int} : x ∈ pEnd Z pl i ↔ 1 ≤ x ∧ x < i ∧ pl.getD (x.toNat - 1) 0 ∈ Z := by
  unfold pEnd
  rw [List.mem_map]
  constructor
  · rintro ⟨k, hk, rfl⟩
    rw [List.mem_filter, List.mem_range, decide_eq_true_eq] at hk
    exact ⟨by omega, by omega, by simpa using hk.2.2⟩
  · rintro ⟨h1, h2, h3⟩
    exact ⟨x.toNat, by rw [List.mem_filter, List.mem_range, decide_eq_true_eq]; exact ⟨by omega, by omega, h3⟩, by omega⟩
theorem asc_lt {pl : List Int} (h : pl.Pairwise (· < ·)) {a b : Int} (ha : a ∈ pl) (hb : b ∈ pl) (hab : a < b) : pl.idxOf a < pl.idxOf b := by
  have h1 := List.idxOf_lt_length_of_mem ha
  have h2 := List.idxOf_lt_length_of_mem hb
  rcases Nat.lt_trichotomy (pl.idxOf a) (pl.idxOf b) with h3 | h3 | h3
  · exact h3
  · have e1 := getD_idx ha; have e2 := getD_idx hb; rw [h3] at e1; omega
  · have := List.pairwise_iff_getElem.1 h (pl.idxOf b) (pl.idxOf a) h2 h1 h3
    rw [List.getElem_idxOf h1, List.getElem_idxOf h2] at this; omega
/-- The states of the last letters in both ways. -/
theorem pEnd_all {Z pl : List Int} (hp : pl.Pairwise (· < ·)) (hz : Z.Pairwise (· < ·)) (hs : ∀ x ∈ Z, x ∈ pl) : pEnd Z pl (pl.length + 1) = Z.map fun a => ((pl.idxOf a : Nat) : Int) + 1 := by
  refine asc_eq (pEnd_asc _ _ _) ?_ fun x => ?_
  · rw [List.pairwise_map]
    exact hz.imp_of_mem fun ha hb hab => by have := asc_lt hp (hs _ ha) (hs _ hb) hab; omega
  · rw [mem_pEnd, List.mem_map]
    constructor
    · rintro ⟨h1, h2, h3⟩
      exact ⟨_, h3, by rw [idx_getD hp (by omega)]; omega⟩
    · rintro ⟨a, ha, rfl⟩
      have := List.idxOf_lt_length_of_mem (hs a ha)
      refine ⟨by omega, by omega, ?_⟩
      rw [show ((((pl.idxOf a : Nat) : Int) + 1).toNat - 1) = pl.idxOf a by omega, getD_idx (hs a ha)]; exact ha
/-- The automaton of the positions of a tree; all of it, whatever its size. -/
def posA (t : Re) : NfaD := ⟨((lpk t.flat t.flat.length).length : Int) + 1, pMvs t.flat (t.fps 0) (t.fol 0) (lpk t.flat t.flat.length) ((lpk t.flat t.flat.length).length + 1), [0],
  (if t.nul then [0] else []) ++ pEnd (t.lps 0) (lpk t.flat t.flat.length) ((lpk t.flat t.flat.length).length + 1)⟩
theorem mem_pRow {e : List (Int × Int)} {F : List Int} {L : List (Int × Int)} {pl : List Int} {i j : Nat} {m : Int × Int × Int} (h : m ∈ pRow e F L pl i j) :
    m.1 = i ∧ ∃ k : Nat, 1 ≤ k ∧ k ≤ pl.length ∧ m.2.2 = k ∧ m.2.1 = (e.getD (pl.getD (k - 1) 0).toNat (0, 0)).2 := by
  unfold pRow at h
  obtain ⟨k, hk, rfl⟩ := List.mem_map.1 h
  rw [List.mem_filter] at hk
  have := of_decide_eq_true hk.2
  exact ⟨rfl, k, this.1, this.2.1, rfl, rfl⟩
theorem wf_let {t : Re} (h : t.wf) : ∀ p ∈ t.flat, p.1 = 3 → 0 ≤ p.2 ∧ p.2 ≤ 2 := by
  induction t with
  | none => intro p hp h3; simp [Re.flat] at hp; subst hp; simp at h3
  | empty => intro p hp h3; simp [Re.flat] at hp; subst hp; simp at h3
  | letter c => intro p hp _; simp [Re.flat] at hp; subst hp; exact h
  | join a b iha ihb =>
    intro p hp h3
    simp only [Re.flat, List.mem_append, List.mem_singleton] at hp
    rcases hp with (hp | hp) | rfl
    · exact iha h.1 p hp h3
    · exact ihb h.2 p hp h3
    · simp at h3
  | either a b iha ihb =>
    intro p hp h3
    simp only [Re.flat, List.mem_append, List.mem_singleton] at hp
    rcases hp with (hp | hp) | rfl
    · exact iha h.1 p hp h3
    · exact ihb h.2 p hp h3
    · simp at h3
  | both a b iha ihb =>
    intro p hp h3
    simp only [Re.flat, List.mem_append, List.mem_singleton] at hp
    rcases hp with (hp | hp) | rfl
    · exact iha h.1 p hp h3
    · exact ihb h.2 p hp h3
    · simp at h3
  | not a iha =>
    intro p hp h3
    simp only [Re.flat, List.mem_append, List.mem_singleton] at hp
    rcases hp with hp | rfl
    · exact iha h p hp h3
    · simp at h3
  | star a iha =>
    intro p hp h3
    simp only [Re.flat, List.mem_append, List.mem_singleton] at hp
    rcases hp with hp | rfl
    · exact iha h p hp h3
    · simp at h3
theorem okS_asc {xs : List Int} {n : Int} (h : xs.Pairwise (· < ·)) (hb : ∀ x ∈ xs, 0 ≤ x ∧ x ≤ n - 1) : okS xs n := fun i hi _ =>
  ⟨hb _ (List.getElem_mem hi), fun h0 => List.pairwise_iff_getElem.1 h (i - 1) i (by omega) hi (by omega)⟩
theorem lpk_wf {t : Re} (ht : t.wf) {k : Nat} (hk : k < (lpk t.flat t.flat.length).length) : 0 ≤ (t.flat.getD ((lpk t.flat t.flat.length).getD k 0).toNat (0, 0)).2 ∧ (t.flat.getD ((lpk t.flat t.flat.length).getD k 0).toNat (0, 0)).2 ≤ 2 := by
  have hm := List.getElem_mem hk
  rw [List.getD_eq_getElem?_getD (l := lpk t.flat t.flat.length), List.getElem?_eq_getElem hk, Option.getD_some]
  obtain ⟨h1, h2, h3⟩ := mem_lpk.1 hm
  have hlt : ((lpk t.flat t.flat.length)[k]).toNat < t.flat.length := by omega
  rw [List.getD_eq_getElem?_getD, List.getElem?_eq_getElem hlt, Option.getD_some] at h3 ⊢
  exact wf_let ht _ (List.getElem_mem hlt) h3
theorem posA_ends (t : Re) : (posA t).ends.Pairwise (· < ·) ∧ ∀ x ∈ (posA t).ends, 0 ≤ x ∧ x ≤ (posA t).states - 1 := by
  constructor
  · show List.Pairwise _ (_ ++ _)
    refine List.pairwise_append.2 ⟨by split <;> simp, pEnd_asc _ _ _, fun x hx y hy => ?_⟩
    have := (mem_pEnd.1 hy).1
    split at hx
    · rw [List.mem_singleton] at hx; omega
    · cases hx
  · intro x hx
    show _ ∧ x ≤ _ + 1 - 1
    rcases List.mem_append.1 hx with hx | hx
    · split at hx
      · rw [List.mem_singleton] at hx; omega
      · cases hx
    · have := mem_pEnd.1 hx; omega
/-- The automaton of the positions is valid unless it is too large. -/
theorem posA_ok {t : Re} (ht : t.wf) (hn : (lpk t.flat t.flat.length).length < 40) : okN (posA t) ↔ (posA t).moves.length ≤ 400 := by
  constructor
  · exact fun h => h.2.1
  · intro h
    refine ⟨⟨?_, ?_⟩, h, okS_asc (by simp [posA]) (fun x hx => ?_), okS_asc (posA_ends t).1 (posA_ends t).2, fun m hm => ?_⟩
    · show (0 : Int) ≤ _ + 1; omega
    · show _ + (1 : Int) ≤ 40; omega
    · have : x = 0 := by simpa [posA] using hx
      show _ ∧ x ≤ _ + 1 - 1; omega
    · obtain ⟨i, hi, hm⟩ := List.mem_flatMap.1 hm
      rw [List.mem_range] at hi
      obtain ⟨e1, k, hk1, hk2, e2, e3⟩ := mem_pRow hm
      have := lpk_wf ht (k := k - 1) (by omega)
      rw [← e3] at this
      refine ⟨?_, ?_, ?_⟩
      · show _ ∧ _ ≤ _ + 1 - 1; omega
      · show _ ∧ _ ≤ _ + 1 - 1; omega
      · omega
/-- The answer for a tree. -/
noncomputable def posN (t : Re) : NfaD := if (lpk t.flat t.flat.length).length < 40 then chkN (posA t) else nfa0
noncomputable def posB (t : Re) : Bool := if (lpk t.flat t.flat.length).length < 40 then chkB (posA t) else false
theorem posN_big {t : Re} (h : ¬ (lpk t.flat t.flat.length).length < 40) : posN t = nfa0 ∧ posB t = false := by unfold posN posB; rw [if_neg h, if_neg h]; exact ⟨rfl, rfl⟩
theorem posN_chk {t : Re} (h : (lpk t.flat t.flat.length).length < 40) : posN t = chkN (posA t) ∧ posB t = chkB (posA t) := by unfold posN posB; rw [if_pos h, if_pos h]; exact ⟨rfl, rfl⟩
theorem posN_yes {t : Re} (ht : t.wf) (h : (lpk t.flat t.flat.length).length < 40) (hm : (posA t).moves.length ≤ 400) : posN t = posA t ∧ posB t = true := by
  have := (posA_ok ht h).2 hm
  rw [(posN_chk h).1, (posN_chk h).2, chkN_yes this, chkB_yes this]; exact ⟨rfl, rfl⟩
theorem posN_no {t : Re} (ht : t.wf) (h : (lpk t.flat t.flat.length).length < 40) (hm : ¬ (posA t).moves.length ≤ 400) : posN t = nfa0 ∧ posB t = false := by
  have := fun h' => hm ((posA_ok ht h).1 h')
  rw [(posN_chk h).1, (posN_chk h).2, chkN_no this, chkB_no this]; exact ⟨rfl, rfl⟩
/-- The answer for a list of parts. -/
noncomputable def ppN (e : List (Int × Int)) : NfaD := match plT e with | some t => posN t | none => nfa0
noncomputable def ppB (e : List (Int × Int)) : Bool := match plT e with | some t => posB t | none => false
theorem pp_some {e : List (Int × Int)} {t : Re} (h : plT e = some t) : ppN e = posN t ∧ ppB e = posB t := by unfold ppN ppB; rw [h]; exact ⟨rfl, rfl⟩
theorem pp_none {e : List (Int × Int)} (h : plT e = none) : ppN e = nfa0 ∧ ppB e = false := by unfold ppN ppB; rw [h]; exact ⟨rfl, rfl⟩
end Go.Proofs.Ytbcjhiponbfbnaa
