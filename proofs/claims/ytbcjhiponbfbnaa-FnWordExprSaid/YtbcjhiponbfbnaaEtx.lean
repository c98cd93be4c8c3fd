/- The texts of expressions, and that they tell the expressions apart. Plain. No condition. -/
import Derived.Test.YtbcjhiponbfbnaaLre
set_option linter.unusedSimpArgs false
set_option linter.unusedVariables false
set_option linter.unusedSectionVars false
namespace Go.Proofs.Ytbcjhiponbfbnaa
open Go.RowKit
set_option maxRecDepth 100000
def Re.lvl : Re → Nat
  | .either _ _ => 1
  | .both _ _ => 2
  | .join _ _ => 3
  | .not _ => 4
  | .star _ => 5
  | _ => 6
theorem lvl_pos (t : Re) : 1 ≤ t.lvl := by cases t <;> simp [Re.lvl]
def brk (b : Bool) (l : List UInt8) : List UInt8 := if b then [40] ++ l ++ [41] else l
/-- The text. -/
def Re.tx : Re → List UInt8
  | .none => [48]
  | .empty => [49]
  | .letter c => [UInt8.ofNat (97 + c.toNat)]
  | .not a => [33] ++ brk (a.lvl < 4) a.tx
  | .star a => brk (a.lvl < 5) a.tx ++ [42]
  | .join a b => brk (a.lvl < 3) a.tx ++ brk (b.lvl < 4) b.tx
  | .either a b => brk (a.lvl < 1) a.tx ++ [124] ++ brk (b.lvl < 2) b.tx
  | .both a b => brk (a.lvl < 2) a.tx ++ [38] ++ brk (b.lvl < 3) b.tx
theorem brk_len (b : Bool) (l : List UInt8) : (brk b l).length ≤ l.length + 2 := by unfold brk; split <;> simp
theorem tx_len (t : Re) : t.tx.length ≤ 5 * t.flat.length := by
  induction t with
  | none => decide
  | empty => decide
  | letter c => simp [Re.tx, Re.flat]
  | not a iha => have := brk_len (a.lvl < 4) a.tx; simp only [Re.tx, Re.flat, List.length_append, List.length_singleton]; omega
  | star a iha => have := brk_len (a.lvl < 5) a.tx; simp only [Re.tx, Re.flat, List.length_append, List.length_singleton]; omega
  | join a b iha ihb => have := brk_len (a.lvl < 3) a.tx; have := brk_len (b.lvl < 4) b.tx; simp only [Re.tx, Re.flat, List.length_append, List.length_singleton]; omega
  | either a b iha ihb => have := brk_len (a.lvl < 1) a.tx; have := brk_len (b.lvl < 2) b.tx; simp only [Re.tx, Re.flat, List.length_append, List.length_singleton]; omega
  | both a b iha ihb => have := brk_len (a.lvl < 2) a.tx; have := brk_len (b.lvl < 3) b.tx; simp only [Re.tx, Re.flat, List.length_append, List.length_singleton]; omega
/-- What waits to the left of an operand. -/
inductive Frm where
  | orL (a : Re) | andL (a : Re) | joinL (a : Re) | notF | par
def Frm.lvl : Frm → Nat
  | .orL _ => 1
  | .andL _ => 2
  | .joinL _ => 3
  | .notF => 4
  | .par => 0
def Frm.ap : Frm → Re → Re
  | .orL a, v => .either a v
  | .andL a, v => .both a v
  | .joinL a, v => .join a v
  | .notF, v => .not v
  | .par, v => v
/-- The operations that bind at least so tightly are made. -/
def clps (k : Nat) : List Frm → Re → List Frm × Re
  | [], v => ([], v)
  | f :: fr, v => if f.lvl = 0 ∨ f.lvl < k then (f :: fr, v) else clps k fr (f.ap v)
/-- A leaf, a bracket or a sign that begins an operand: what is there is its left neighbour. -/
def begins : List Frm × Option Re → List Frm
  | (fr, none) => fr
  | (fr, some v) => .joinL (clps 3 fr v).2 :: (clps 3 fr v).1
/-- One byte is read. -/
def rstep (s : List Frm × Option Re) (c : UInt8) : List Frm × Option Re :=
  if c = 48 then (begins s, some .none)
  else if c = 49 then (begins s, some .empty)
  else if c = 40 then (.par :: begins s, none)
  else if c = 33 then (.notF :: begins s, none)
  else if c = 42 then (s.1, s.2.map .star)
  else if c = 38 then (match s.2 with | some v => (.andL (clps 2 s.1 v).2 :: (clps 2 s.1 v).1, none) | none => s)
  else if c = 124 then (match s.2 with | some v => (.orL (clps 1 s.1 v).2 :: (clps 1 s.1 v).1, none) | none => s)
  else if c = 41 then (match s.2 with | some v => ((clps 1 s.1 v).1.tail, some (clps 1 s.1 v).2) | none => s)
  else (begins s, some (.letter ((c.toNat : Int) - 97)))
def rrun (l : List UInt8) (s : List Frm × Option Re) : List Frm × Option Re := l.foldl rstep s
theorem rrun_app (l m : List UInt8) (s : List Frm × Option Re) : rrun (l ++ m) s = rrun m (rrun l s) := List.foldl_append
/-- An operation of this level may stand behind these. -/
def okF (fr : List Frm) (n : Nat) : Prop := 4 ≤ n ∨ ∀ f rest, fr = f :: rest → f.lvl < n
theorem clps_ok {fr : List Frm} {n : Nat} (h : ∀ f rest, fr = f :: rest → f.lvl < n) (v : Re) : clps n fr v = (fr, v) := by
  cases fr with
  | nil => rfl
  | cons f rest => unfold clps; rw [if_pos (.inr (h f rest rfl))]
/-- What is read of an operand: behind it stands its value, but for what is still to be made. -/
def Red (l : List UInt8) (n : Nat) (t : Re) : Prop := ∀ fr, okF fr n → ∃ fr2 v, rrun l (fr, none) = (fr2, some v) ∧ (∀ k, 1 ≤ k → k ≤ n → clps k fr2 v = clps k fr t) ∧ (5 ≤ n → fr2 = fr ∧ v = t)
theorem red_mono {l : List UInt8} {n m : Nat} {t : Re} (h : Red l n t) (hm : 6 ≤ n) : Red l (m) t := fun fr _ => by
  obtain ⟨fr2, v, h1, h2, h3⟩ := h fr (.inl (by omega))
  obtain ⟨rfl, rfl⟩ := h3 (by omega)
  exact ⟨_, _, h1, fun k _ _ => rfl, fun _ => ⟨rfl, rfl⟩⟩
theorem red_brk {t : Re} (n : Nat) (h : Red t.tx t.lvl t) : ∀ fr, okF fr n → ∃ fr2 v, rrun (brk (t.lvl < n) t.tx) (fr, none) = (fr2, some v) ∧ (∀ k, 1 ≤ k → k ≤ n → clps k fr2 v = clps k fr t) ∧ (5 ≤ n → fr2 = fr ∧ v = t) := by
  intro fr hf
  unfold brk
  by_cases hl : t.lvl < n
  · rw [if_pos (by simpa using hl), rrun_app, rrun_app]
    obtain ⟨fr2, v, h1, h2, h3⟩ := h (.par :: fr) (.inr (fun f rest e => by cases e; exact lvl_pos t))
    have h0 : rrun [40] (fr, none) = (.par :: fr, none) := rfl
    rw [h0, h1]
    have h4 := h2 1 (Nat.le_refl _) (lvl_pos t)
    refine ⟨fr, t, ?_, fun k _ _ => rfl, fun _ => ⟨rfl, rfl⟩⟩
    show ((clps 1 fr2 v).1.tail, some (clps 1 fr2 v).2) = _
    rw [h4]; rfl
  · rw [if_neg (by simpa using hl)]
    have hf' : okF fr t.lvl := by
      rcases hf with hf | hf
      · exact .inl (by omega)
      · exact .inr fun f rest e => Nat.lt_of_lt_of_le (hf f rest e) (by omega)
    obtain ⟨fr2, v, h1, h2, h3⟩ := h fr hf'
    exact ⟨fr2, v, h1, fun k hk hk2 => h2 k hk (by omega), fun h5 => h3 (by omega)⟩
/-- The text of an operand begins a new one. -/
theorem tx_starts (t : Re) : t.wf → ∃ c l, t.tx = c :: l ∧ ∀ fr v, rstep (fr, some v) c = rstep (.joinL (clps 3 fr v).2 :: (clps 3 fr v).1, none) c := by
  have hb : ∀ (b : Bool) (l : List UInt8), (∃ c m, l = c :: m ∧ ∀ fr v, rstep (fr, some v) c = rstep (.joinL (clps 3 fr v).2 :: (clps 3 fr v).1, none) c) → ∃ c m, brk b l = c :: m ∧ ∀ fr v, rstep (fr, some v) c = rstep (.joinL (clps 3 fr v).2 :: (clps 3 fr v).1, none) c := by
    rintro b l ⟨c, m, rfl, h⟩
    cases b
    · exact ⟨c, m, rfl, h⟩
    · exact ⟨40, _, rfl, fun fr v => rfl⟩
  have ha : ∀ (x y : List UInt8), (∃ c m, x = c :: m ∧ ∀ fr v, rstep (fr, some v) c = rstep (.joinL (clps 3 fr v).2 :: (clps 3 fr v).1, none) c) → ∃ c m, x ++ y = c :: m ∧ ∀ fr v, rstep (fr, some v) c = rstep (.joinL (clps 3 fr v).2 :: (clps 3 fr v).1, none) c := by
    rintro x y ⟨c, m, rfl, h⟩
    exact ⟨c, m ++ y, rfl, h⟩
  induction t with
  | none => exact fun _ => ⟨48, [], rfl, fun fr v => rfl⟩
  | empty => exact fun _ => ⟨49, [], rfl, fun fr v => rfl⟩
  | letter c =>
    intro h
    refine ⟨_, [], rfl, fun fr v => ?_⟩
    rcases (by have := h.1; have := h.2; omega : c = 0 ∨ c = 1 ∨ c = 2) with rfl | rfl | rfl <;> rfl
  | not a iha => exact fun h => ⟨33, _, rfl, fun fr v => rfl⟩
  | star a iha => exact fun h => ha _ _ (hb _ _ (iha h))
  | join a b iha ihb => exact fun h => ha _ _ (hb _ _ (iha h.1))
  | either a b iha ihb => exact fun h => ha _ _ (ha _ _ (hb _ _ (iha h.1)))
  | both a b iha ihb => exact fun h => ha _ _ (ha _ _ (hb _ _ (iha h.1)))
theorem red (t : Re) : t.wf → Red t.tx t.lvl t := by
  induction t with
  | none => exact fun _ fr _ => ⟨fr, .none, rfl, fun k _ _ => rfl, fun _ => ⟨rfl, rfl⟩⟩
  | empty => exact fun _ fr _ => ⟨fr, .empty, rfl, fun k _ _ => rfl, fun _ => ⟨rfl, rfl⟩⟩
  | letter c =>
    intro h fr _
    refine ⟨fr, .letter c, ?_, fun k _ _ => rfl, fun _ => ⟨rfl, rfl⟩⟩
    rcases (by have := h.1; have := h.2; omega : c = 0 ∨ c = 1 ∨ c = 2) with rfl | rfl | rfl <;> rfl
  | not a iha =>
    intro h fr hf
    obtain ⟨fr2, v, h1, h2, h3⟩ := red_brk 4 (iha h) (.notF :: fr) (.inl (Nat.le_refl _))
    refine ⟨fr2, v, ?_, fun k hk hk4 => ?_, fun h5 => absurd h5 (show ¬ 5 ≤ 4 by decide)⟩
    · show rrun ([33] ++ _) _ = _
      rw [rrun_app]; exact h1
    · rw [h2 k hk hk4]
      have hk4' : k ≤ 4 := hk4
      show (if _ then _ else _) = _
      rw [if_neg (by simp only [Frm.lvl]; omega)]; rfl
  | star a iha =>
    intro h fr hf
    obtain ⟨fr2, v, h1, h2, h3⟩ := red_brk 5 (iha h) fr (.inl (by decide))
    obtain ⟨rfl, rfl⟩ := h3 (Nat.le_refl _)
    refine ⟨fr2, .star v, ?_, fun k hk hk4 => rfl, fun h5 => ⟨rfl, rfl⟩⟩
    show rrun (_ ++ [42]) _ = _
    rw [rrun_app, h1]; rfl
  | join a b iha ihb =>
    intro h fr hf
    have hf3 : ∀ f rest, fr = f :: rest → f.lvl < 3 := hf.elim (fun h => absurd h (show ¬ 4 ≤ 3 by decide)) id
    obtain ⟨fr2, v, h1, h2, h3⟩ := red_brk 3 (iha h.1) fr (.inr hf3)
    have h4 := h2 3 (by omega) (Nat.le_refl _)
    rw [clps_ok hf3] at h4
    obtain ⟨fr5, u, h5, h6, h7⟩ := red_brk 4 (ihb h.2) (.joinL a :: fr) (.inl (Nat.le_refl _))
    obtain ⟨c, l, hc, hs⟩ : ∃ c l, brk (b.lvl < 4) b.tx = c :: l ∧ ∀ fr v, rstep (fr, some v) c = rstep (.joinL (clps 3 fr v).2 :: (clps 3 fr v).1, none) c := by
      obtain ⟨c, l, hc, hs⟩ := tx_starts b h.2
      unfold brk; split
      · exact ⟨40, _, rfl, fun fr v => rfl⟩
      · exact ⟨c, l, hc, hs⟩
    refine ⟨fr5, u, ?_, fun k hk hk3 => ?_, fun h5 => absurd h5 (show ¬ 5 ≤ 3 by decide)⟩
    · show rrun (_ ++ _) _ = _
      rw [rrun_app, h1, ← h5, hc]
      show rrun l (rstep (fr2, some v) c) = rrun l (rstep (.joinL a :: fr, none) c)
      rw [hs, h4]
    · have hk3' : k ≤ 3 := hk3
      rw [h6 k hk (by omega)]
      show (if _ then _ else _) = _
      rw [if_neg (by simp only [Frm.lvl]; omega)]; rfl
  | either a b iha ihb =>
    intro h fr hf
    have hf3 : ∀ f rest, fr = f :: rest → f.lvl < 1 := hf.elim (fun h => absurd h (show ¬ 4 ≤ 1 by decide)) id
    obtain ⟨fr2, v, h1, h2, h3⟩ := red_brk 1 (iha h.1) fr (.inr hf3)
    have h4 := h2 1 (by omega) (Nat.le_refl _)
    rw [clps_ok hf3] at h4
    obtain ⟨fr5, u, h5, h6, h7⟩ := red_brk 2 (ihb h.2) (.orL a :: fr) (.inr fun f rest e => by cases e; simp [Frm.lvl])
    refine ⟨fr5, u, ?_, fun k hk hk3 => ?_, fun h5 => absurd h5 (show ¬ 5 ≤ 1 by decide)⟩
    · show rrun (_ ++ [124] ++ _) _ = _
      rw [rrun_app, rrun_app, h1, ← h5]
      show rrun _ (.orL (clps 1 fr2 v).2 :: (clps 1 fr2 v).1, none) = _
      rw [h4]
    · have hk3' : k ≤ 1 := hk3
      rw [h6 k hk (by omega)]
      show (if _ then _ else _) = _
      rw [if_neg (by simp only [Frm.lvl]; omega)]; rfl
  | both a b iha ihb =>
    intro h fr hf
    have hf3 : ∀ f rest, fr = f :: rest → f.lvl < 2 := hf.elim (fun h => absurd h (show ¬ 4 ≤ 2 by decide)) id
    obtain ⟨fr2, v, h1, h2, h3⟩ := red_brk 2 (iha h.1) fr (.inr hf3)
    have h4 := h2 2 (by omega) (Nat.le_refl _)
    rw [clps_ok hf3] at h4
    obtain ⟨fr5, u, h5, h6, h7⟩ := red_brk 3 (ihb h.2) (.andL a :: fr) (.inr fun f rest e => by cases e; simp [Frm.lvl])
    refine ⟨fr5, u, ?_, fun k hk hk3 => ?_, fun h5 => absurd h5 (show ¬ 5 ≤ 2 by decide)⟩
    · show rrun (_ ++ [38] ++ _) _ = _
      rw [rrun_app, rrun_app, h1, ← h5]
      show rrun _ (.andL (clps 2 fr2 v).2 :: (clps 2 fr2 v).1, none) = _
      rw [h4]
    · have hk3' : k ≤ 2 := hk3
      rw [h6 k hk (by omega)]
      show (if _ then _ else _) = _
      rw [if_neg (by simp only [Frm.lvl]; omega)]; rfl
/-- The text tells the expression. -/
theorem tx_inj {t u : Re} (ht : t.wf) (hu : u.wf) (h : t.tx = u.tx) : t = u := by
  obtain ⟨fr, v, h1, h2, _⟩ := red t ht [] (.inr fun f rest e => by cases e)
  obtain ⟨fr', v', h1', h2', _⟩ := red u hu [] (.inr fun f rest e => by cases e)
  rw [h] at h1
  rw [h1] at h1'
  injection h1' with e1 e2
  injection e2 with e2
  subst e1 e2
  have e3 := h2 1 (Nat.le_refl _) (lvl_pos t)
  have e4 := h2' 1 (Nat.le_refl _) (lvl_pos u)
  rw [e3] at e4
  exact congrArg Prod.snd e4
end Go.Proofs.Ytbcjhiponbfbnaa
