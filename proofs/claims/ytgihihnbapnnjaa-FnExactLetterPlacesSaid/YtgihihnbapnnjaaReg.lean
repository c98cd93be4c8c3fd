/- Expressions as trees. No program. -/
import Derived.Test.YtgihihnbapnnjaaExw
namespace Go.Proofs.Ytgihihnbapnnjaa
open Go.RowKit
set_option maxRecDepth 100000

inductive Re where
  | none | empty | letter (c : Int) | join (a b : Re) | either (a b : Re) | both (a b : Re) | not (a : Re) | star (a : Re)
  deriving DecidableEq
namespace Re
def flat : Re → List (Int × Int)
  | .none => [(1, 0)]
  | .empty => [(2, 0)]
  | .letter c => [(3, c)]
  | .join a b => a.flat ++ b.flat ++ [(4, 0)]
  | .either a b => a.flat ++ b.flat ++ [(5, 0)]
  | .both a b => a.flat ++ b.flat ++ [(6, 0)]
  | .not a => a.flat ++ [(7, 0)]
  | .star a => a.flat ++ [(8, 0)]
def wf : Re → Prop
  | .none => True
  | .empty => True
  | .letter c => 0 ≤ c ∧ c ≤ 2
  | .join a b => a.wf ∧ b.wf
  | .either a b => a.wf ∧ b.wf
  | .both a b => a.wf ∧ b.wf
  | .not a => a.wf
  | .star a => a.wf
theorem flat_pos (t : Re) : 0 < t.flat.length := by cases t <;> simp [flat] <;> omega
theorem flat_ne (t : Re) : t.flat ≠ [] := by intro h; have := t.flat_pos; rw [h] at this; simp at this
def mk0 (x y : Int) : Re := if x = 1 then .none else if x = 2 then .empty else .letter y
def mk1 (x : Int) (a : Re) : Re := if x = 7 then .not a else .star a
def mk2 (x : Int) (a b : Re) : Re := if x = 4 then .join a b else if x = 5 then .either a b else .both a b
end Re
open Re
/-- One part more: the trees behind each other, the last one first. -/
def push (o : Option (List Re)) (p : Int × Int) : Option (List Re) := o.bind fun s =>
  if pOk p.1 p.2 then
    (if pNeeds p.1 = 0 then some (mk0 p.1 p.2 :: s) else if pNeeds p.1 = 1 then (match s with | a :: s => some (mk1 p.1 a :: s) | [] => none)
      else match s with | b :: a :: s => some (mk2 p.1 a b :: s) | _ => none)
  else none
def parse (e : List (Int × Int)) : Option (List Re) := e.foldl push (some [])
def flats : List Re → List (Int × Int)
  | [] => []
  | t :: s => flats s ++ t.flat
theorem parse_snoc (e : List (Int × Int)) (p : Int × Int) : parse (e ++ [p]) = push (parse e) p := by simp [parse]
theorem take_parse (e : List (Int × Int)) (k : Nat) (h : k < e.length) : parse (e.take (k + 1)) = push (parse (e.take k)) e[k] := by
  rw [List.take_succ_eq_append_getElem h, parse_snoc]
theorem pNeeds_cases (x y : Int) (h : pOk x y) : (x = 1 ∧ y = 0) ∨ (x = 2 ∧ y = 0) ∨ (x = 3 ∧ 0 ≤ y ∧ y ≤ 2) ∨ (x = 4 ∧ y = 0) ∨ (x = 5 ∧ y = 0) ∨ (x = 6 ∧ y = 0) ∨ (x = 7 ∧ y = 0) ∨ (x = 8 ∧ y = 0) := by
  unfold pOk at h
  rcases h with ⟨rfl, h⟩ | ⟨h3, h1, h8, rfl⟩
  · exact .inr (.inr (.inl ⟨rfl, h⟩))
  · omega
/-- What push makes, case by case. -/
theorem push_some {s s' : List Re} {p : Int × Int} (h : push (some s) p = some s') : pOk p.1 p.2 ∧
    ((pNeeds p.1 = 0 ∧ s' = mk0 p.1 p.2 :: s ∧ (mk0 p.1 p.2).flat = [p]) ∨ (pNeeds p.1 = 1 ∧ ∃ a r, s = a :: r ∧ s' = mk1 p.1 a :: r ∧ (mk1 p.1 a).flat = a.flat ++ [p]) ∨
     (pNeeds p.1 = 2 ∧ ∃ a b r, s = b :: a :: r ∧ s' = mk2 p.1 a b :: r ∧ (mk2 p.1 a b).flat = a.flat ++ b.flat ++ [p])) := by
  obtain ⟨x, y⟩ := p
  by_cases hok : pOk x y
  · refine ⟨hok, ?_⟩
    simp only [push, Option.bind_some, if_pos hok] at h
    rcases pNeeds_cases x y hok with ⟨rfl, h'⟩ | ⟨rfl, h'⟩ | ⟨rfl, h'⟩ | ⟨rfl, h'⟩ | ⟨rfl, h'⟩ | ⟨rfl, h'⟩ | ⟨rfl, h'⟩ | ⟨rfl, h'⟩
    any_goals subst h'
    all_goals simp only [pNeeds] at h ⊢
    · left; simp at h; subst h; exact ⟨by simp, rfl, by simp [mk0, flat]⟩
    · left; simp at h; subst h; exact ⟨by simp, rfl, by simp [mk0, flat]⟩
    · left; simp at h; subst h; exact ⟨by simp, rfl, by simp [mk0, flat]⟩
    · right; right; refine ⟨by decide, ?_⟩; rcases s with _ | ⟨b, _ | ⟨a, r⟩⟩ <;> simp at h; subst h; exact ⟨a, b, r, rfl, rfl, by simp [mk2, flat]⟩
    · right; right; refine ⟨by decide, ?_⟩; rcases s with _ | ⟨b, _ | ⟨a, r⟩⟩ <;> simp at h; subst h; exact ⟨a, b, r, rfl, rfl, by simp [mk2, flat]⟩
    · right; right; refine ⟨by decide, ?_⟩; rcases s with _ | ⟨b, _ | ⟨a, r⟩⟩ <;> simp at h; subst h; exact ⟨a, b, r, rfl, rfl, by simp [mk2, flat]⟩
    · right; left; refine ⟨by decide, ?_⟩; rcases s with _ | ⟨a, r⟩ <;> simp at h; subst h; exact ⟨a, r, rfl, rfl, by simp [mk1, flat]⟩
    · right; left; refine ⟨by decide, ?_⟩; rcases s with _ | ⟨a, r⟩ <;> simp at h; subst h; exact ⟨a, r, rfl, rfl, by simp [mk1, flat]⟩
  · simp [push, hok] at h
theorem push_len (s : List Re) (p : Int × Int) : (push (some s) p).map List.length = dstep (some s.length) p := by
  cases h : push (some s) p with
  | some s' =>
    obtain ⟨hok, h | h | h⟩ := push_some h
    · obtain ⟨h0, rfl, _⟩ := h
      rw [dstep_yes hok (by omega), h0]; simp
    · obtain ⟨h0, a, r, rfl, rfl, _⟩ := h
      rw [dstep_yes hok (by simp; omega), h0]; simp
    · obtain ⟨h0, a, b, r, rfl, rfl, _⟩ := h
      rw [dstep_yes hok (by simp; omega), h0]; simp
  | none =>
    rw [dstep_no]; rfl
    rintro ⟨hok, hle⟩
    simp only [push, Option.bind_some, if_pos hok] at h
    split at h
    · cases h
    · split at h
      · rename_i h1; rw [h1] at hle; split at h
        · cases h
        · simp at hle
      · rename_i h0 h1
        have : pNeeds p.1 = 2 := by unfold pNeeds at h0 h1 ⊢; split <;> simp_all
        rw [this] at hle; split at h
        · cases h
        · rename_i h2
          rcases s with _ | ⟨b, _ | ⟨a, r⟩⟩
          · simp at hle
          · simp at hle
          · exact h2 _ _ _ rfl
theorem dep_parse (e : List (Int × Int)) : dep e = (parse e).map List.length := by
  have key : ∀ (e : List (Int × Int)) (o : Option (List Re)), (e.foldl push o).map List.length = e.foldl dstep (o.map List.length) := by
    intro e
    induction e with
    | nil => intro o; rfl
    | cons p t ih =>
      intro o
      simp only [List.foldl_cons]
      rw [ih]
      congr 1
      cases o with
      | none => rfl
      | some s => exact push_len s p
  exact (key e (some [])).symm
theorem revInd {α : Type} {P : List α → Prop} (h0 : P []) (h1 : ∀ l a, P l → P (l ++ [a])) (l : List α) : P l := by
  have : ∀ l : List α, P l.reverse := by
    intro l
    induction l with
    | nil => exact h0
    | cons a t ih => rw [List.reverse_cons]; exact h1 _ _ ih
  have h := this l.reverse
  rwa [List.reverse_reverse] at h
theorem parse_flats {e : List (Int × Int)} : ∀ {s : List Re}, parse e = some s → flats s = e := by
  refine revInd (P := fun e => ∀ {s : List Re}, parse e = some s → flats s = e) ?_ ?_ e
  · intro s h; simp [parse] at h; subst h; rfl
  · intro e p ih s' h
    rw [parse_snoc] at h
    cases hs : parse e with
    | none => rw [hs] at h; simp [push] at h
    | some s =>
      rw [hs] at h
      have := ih hs
      obtain ⟨_, h | h | h⟩ := push_some h
      · obtain ⟨_, rfl, hf⟩ := h
        simp [flats, hf, this]
      · obtain ⟨_, a, r, rfl, rfl, hf⟩ := h
        simp only [flats] at this ⊢
        rw [hf, ← this]; simp
      · obtain ⟨_, a, b, r, rfl, rfl, hf⟩ := h
        simp only [flats] at this ⊢
        rw [hf, ← this]; simp
theorem push_flat (t : Re) : t.wf → ∀ s, t.flat.foldl push (some s) = some (t :: s) := by
  induction t with
  | none => intro _ s; simp [flat, push, pOk, pNeeds, mk0]
  | empty => intro _ s; simp [flat, push, pOk, pNeeds, mk0]
  | letter c => intro h s; simp [wf] at h; simp [flat, push, pOk, pNeeds, mk0, h.1, h.2]
  | join a b ha hb => intro h s; simp only [flat, List.foldl_append, ha h.1, hb h.2]; simp [push, pOk, pNeeds, mk2]
  | either a b ha hb => intro h s; simp only [flat, List.foldl_append, ha h.1, hb h.2]; simp [push, pOk, pNeeds, mk2]
  | both a b ha hb => intro h s; simp only [flat, List.foldl_append, ha h.1, hb h.2]; simp [push, pOk, pNeeds, mk2]
  | not a ha => intro h s; simp only [flat, List.foldl_append, ha h]; simp [push, pOk, pNeeds, mk1]
  | star a ha => intro h s; simp only [flat, List.foldl_append, ha h]; simp [push, pOk, pNeeds, mk1]
theorem push_wf {s s' : List Re} {p : Int × Int} (h : push (some s) p = some s') (hw : ∀ t ∈ s, t.wf) : ∀ t ∈ s', t.wf := by
  obtain ⟨x, y⟩ := p
  obtain ⟨hok, h | h | h⟩ := push_some h
  · obtain ⟨h0, rfl, _⟩ := h
    rcases pNeeds_cases x y hok with ⟨rfl, h'⟩ | ⟨rfl, h'⟩ | ⟨rfl, h'⟩ | ⟨rfl, h'⟩ | ⟨rfl, h'⟩ | ⟨rfl, h'⟩ | ⟨rfl, h'⟩ | ⟨rfl, h'⟩ <;> simp_all [mk0, wf, pNeeds]
  · obtain ⟨h0, a, r, rfl, rfl, _⟩ := h
    rcases pNeeds_cases x y hok with ⟨rfl, h'⟩ | ⟨rfl, h'⟩ | ⟨rfl, h'⟩ | ⟨rfl, h'⟩ | ⟨rfl, h'⟩ | ⟨rfl, h'⟩ | ⟨rfl, h'⟩ | ⟨rfl, h'⟩ <;> simp_all [mk1, wf, pNeeds]
  · obtain ⟨h0, a, b, r, rfl, rfl, _⟩ := h
    rcases pNeeds_cases x y hok with ⟨rfl, h'⟩ | ⟨rfl, h'⟩ | ⟨rfl, h'⟩ | ⟨rfl, h'⟩ | ⟨rfl, h'⟩ | ⟨rfl, h'⟩ | ⟨rfl, h'⟩ | ⟨rfl, h'⟩ <;> simp_all [mk2, wf, pNeeds]
theorem parse_wf {e : List (Int × Int)} : ∀ {s : List Re}, parse e = some s → ∀ t ∈ s, t.wf := by
  refine revInd (P := fun e => ∀ {s : List Re}, parse e = some s → ∀ t ∈ s, t.wf) ?_ ?_ e
  · intro s h; simp [parse] at h; subst h; simp
  · intro e p ih s' h
    rw [parse_snoc] at h
    cases hs : parse e with
    | none => rw [hs] at h; simp [push] at h
    | some s => rw [hs] at h; exact push_wf h (ih hs)
/-- Valid expressions are the texts of trees. -/
theorem exprOk_iff (e : List (Int × Int)) : ExprOk e ↔ ∃ t : Re, t.wf ∧ t.flat = e ∧ e.length ≤ 60 := by
  constructor
  · rintro ⟨h, hl⟩
    rw [dep_parse] at h
    cases hs : parse e with
    | none => rw [hs] at h; cases h
    | some s =>
      rw [hs] at h
      simp at h
      obtain ⟨t, rfl⟩ := List.length_eq_one_iff.1 h
      exact ⟨t, parse_wf hs t (by simp), by simpa [flats] using parse_flats hs, hl⟩
  · rintro ⟨t, hw, rfl, hl⟩
    refine ⟨?_, hl⟩
    rw [dep_parse]
    show ((t.flat.foldl push (some [])).map List.length) = some 1
    rw [push_flat t hw]; rfl
theorem parse_flat {t : Re} (h : t.wf) : parse t.flat = some [t] := push_flat t h []
theorem flat_inj {t u : Re} (ht : t.wf) (hu : u.wf) (h : t.flat = u.flat) : t = u := by
  have := parse_flat ht
  rw [h, parse_flat hu] at this
  simpa using this.symm
end Go.Proofs.Ytgihihnbapnnjaa
