/- Maps known whole: entries put and read.
The texts of expressions, and that they tell the expressions apart. Plain. No condition.
The text of a whole expression of at most 60 parts: the program's. -/
import Derived.Maps.OwnOps
import Derived.Deep.RegionHeld3
import Derived.Test.YtbcjhiponbfbnaaGB
import Derived.Test.YtbcjhiponbfbnaaLre
import Derived.Test.YtbcjhiponbfbnaaGP
set_option linter.unusedSimpArgs false
set_option linter.unusedVariables false
set_option linter.unusedSectionVars false
namespace Go.Proofs.Ytbcjhiponbfbnaa
open Go.RowKit Go.ChangeMaps
set_option maxRecDepth 100000
/-- The entries, in order of coming. -/
def EN (es : List (Value × Value)) : Array MapEntry := (es.zipIdx.map fun p => (⟨p.1.1, p.1.2, p.2⟩ : MapEntry)).toArray
theorem EN_get (es : List (Value × Value)) (i : Nat) : (EN es).toList[i]? = (es[i]?).map fun x => ⟨x.1, x.2, i⟩ := by simp [EN]; rfl
theorem EN_push (es : List (Value × Value)) (x : Value × Value) : (EN es).push ⟨x.1, x.2, es.length⟩ = EN (es ++ [x]) := by simp [EN, List.zipIdx_append]
theorem EN_size (es : List (Value × Value)) : (EN es).size = es.length := by simp [EN]
/-- Block b is the map with these entries. -/
def MEN (w : World) (b : Nat) (es : List (Value × Value)) : Prop := w.heap[b]? = some (.map (EN es) es.length)
theorem MEN.stay {w w' : World} {b : Nat} {es : List (Value × Value)} (h : MEN w b es) (hb : Below w.heap.size w w') : MEN w' b es := blkBel hb h
theorem MEN.made (w : World) : MEN (w.alloc (.map #[] 0)) w.heap.size [] := blkNew w (.map #[] 0) rfl
theorem MEN.set {w : World} {b : Nat} {es es' : List (Value × Value)} (h : MEN w b es) : MEN (setBlock w b (.map (EN es') es'.length)) b es' := by
  unfold MEN
  rw [heap_setBlock_same h]
variable {t k e : TypeId} {w : World} {b : Nat} {es : List (Value × Value)} {key v : Value}
/-- Every key reads. -/
def KeysIn (k : TypeId) (es : List (Value × Value)) : Prop := ∀ p ∈ es, ∃ l, keyOf Try.prog k p.1 = some l
theorem mem_EN {x : MapEntry} (h : x ∈ (EN es).toList) : ∃ i, ∃ h : i < es.length, x = ⟨es[i].1, es[i].2, i⟩ := by
  obtain ⟨i, hi⟩ := List.mem_iff_getElem?.1 h
  rw [EN_get] at hi
  rcases Nat.lt_or_ge i es.length with h | h
  · rw [List.getElem?_eq_getElem h] at hi
    simp only [Option.map_some, Option.some.injEq] at hi
    exact ⟨i, h, hi.symm⟩
  · rw [List.getElem?_eq_none h] at hi
    simp at hi
theorem mFind (K : Maps.Keyed Try.prog k) (hk : ∃ l, keyOf Try.prog k key = some l) (hes : KeysIn k es) (w : World) :
    ((Instr.findKey k key (EN es).toList).run Try.prog w = .ok none w ∧ ∀ p ∈ es, p.1 ≠ key) ∨
    ∃ j, ∃ h : j < es.length, (Instr.findKey k key (EN es).toList).run Try.prog w = .ok (some (j, es[j].2)) w ∧ es[j].1 = key := by
  obtain ⟨l, hl⟩ := hk
  rcases K.find w hl (EN es).toList (fun x hx => by
    obtain ⟨i, h, rfl⟩ := mem_EN hx
    exact hes _ (List.getElem_mem h)) with ⟨h1, h2⟩ | ⟨j, e0, h1, h2, h3⟩
  · refine .inl ⟨h1, fun p hp => ?_⟩
    obtain ⟨i, hi, rfl⟩ := List.getElem_of_mem hp
    have := EN_get es i
    rw [List.getElem?_eq_getElem hi] at this
    exact h2 _ (List.mem_of_getElem? this)
  · rw [EN_get] at h2
    rcases Nat.lt_or_ge j es.length with h | h
    · rw [List.getElem?_eq_getElem h] at h2
      simp only [Option.map_some, Option.some.injEq] at h2
      subst h2
      exact .inr ⟨j, h, h1, h3⟩
    · rw [List.getElem?_eq_none h] at h2
      simp at h2
/-- A new key. -/
theorem mNew (K : Maps.Keyed Try.prog k) (ul : Try.prog.underlying t = some (.map k e)) (h : MEN w b es) (hk : ∃ l, keyOf Try.prog k key = some l) (hes : KeysIn k es) (hn : ∀ p ∈ es, p.1 ≠ key) :
    (Instr.mapUpdate t (.map (some b)) key v).run Try.prog w = .ok () (setBlock w b (.map (EN (es ++ [(key, v)])) (es.length + 1))) := by
  have hk2 := hk
  obtain ⟨l, hl⟩ := hk2
  rcases mFind K hk hes w with ⟨h1, h2⟩ | ⟨j, hj, h1, h2⟩
  · have := EN_push es (key, v)
    simp [Instr.mapUpdate, run_underlying ul, MapKept.run_getObj_map h, K.check w false hl, h1, MapKept.run_setObj_map _ h, Result.andThen, setBlock, this]
  · exact absurd h2 (hn _ (List.getElem_mem hj))
theorem EN_same (j : Nat) (hj : j < es.length) (hk : es[j].1 = key) (hv : es[j].2 = v) : ((EN es).modify j fun x => { key := key, val := v, born := x.born }) = EN es := by
  apply Array.ext_getElem?
  intro i
  rw [Array.getElem?_modify]
  split
  · rename_i h; subst h
    have h1 := EN_get es j
    rw [List.getElem?_eq_getElem hj] at h1
    rw [← Array.getElem?_toList, h1]
    subst hk hv
    rfl
  · rfl
/-- A key that is there already, with the same value. -/
theorem mOld (K : Maps.Keyed Try.prog k) (ul : Try.prog.underlying t = some (.map k e)) (h : MEN w b es) (hk : ∃ l, keyOf Try.prog k key = some l) (hes : KeysIn k es) (hm : ∃ p ∈ es, p.1 = key) (hv : ∀ p ∈ es, p.2 = v) :
    (Instr.mapUpdate t (.map (some b)) key v).run Try.prog w = .ok () (setBlock w b (.map (EN es) es.length)) := by
  have hk2 := hk
  obtain ⟨l, hl⟩ := hk2
  rcases mFind K hk hes w with ⟨h1, h2⟩ | ⟨j, hj, h1, h2⟩
  · obtain ⟨p, hp, he⟩ := hm; exact absurd he (h2 p hp)
  · have h3 := EN_same j hj h2 (hv _ (List.getElem_mem hj))
    have h4 := EN_get es j
    rw [List.getElem?_eq_getElem hj, Array.getElem?_toList] at h4
    simp [Instr.mapUpdate, run_underlying ul, MapKept.run_getObj_map h, K.check w false hl, h1, h4, h2, K.stays w hl, MapKept.run_setObj_map _ h, Result.andThen, setBlock, h3]
/-- A key that is there is read. -/
theorem mGet (K : Maps.Keyed Try.prog k) (ul : Try.prog.underlying t = some (.map k e)) (hz : ∃ z, (zeroValue e).run Try.prog w = .ok z w) (h : MEN w b es) (hk : ∃ l, keyOf Try.prog k key = some l) (hes : KeysIn k es) (hm : (key, v) ∈ es) (hu : ∀ p ∈ es, p.1 = key → p.2 = v) :
    (Instr.lookup t (.map (some b)) key false).run Try.prog w = .ok v w := by
  have hk2 := hk
  obtain ⟨l, hl⟩ := hk2
  obtain ⟨z, hz⟩ := hz
  rcases mFind K hk hes w with ⟨h1, h2⟩ | ⟨j, hj, h1, h2⟩
  · exact absurd rfl (h2 _ hm)
  · have h3 := hu _ (List.getElem_mem hj) h2
    rw [h3] at h1
    simp [Instr.lookup, run_underlying ul, MapKept.run_getObj_map h, K.check w _ hl, h1, hz, Result.andThen]
theorem MEN.grown {b : Nat} (h : MEN w b es) (ob : Obj) : w.grownBy (setBlock w b ob) (some b) :=
  ⟨rfl, rfl, rfl, by simp [setBlock], fun i _ hi => heap_setBlock_other h _ (fun e => hi (by rw [e]))⟩
end Go.Proofs.Ytbcjhiponbfbnaa
namespace Go.Proofs.Ytbcjhiponbfbnaa
open Go.RowKit
set_option maxRecDepth 100000
def Re.lvl : Re → Nat
  | .either _ _ => 1
  | .both _ _ => 2
  | .join _ _ => 3
  | .not _ => 4
  | .star _ => 5
  | _ => 6
theorem lvl_pos (t : Re) : 1 ≤ t.lvl := by cases t <;> simp [Re.lvl]
def brk (b : Bool) (l : List UInt8) : List UInt8 := if b then [40] ++ l ++ [41] else l
/-- The text. -/
def Re.tx : Re → List UInt8
  | .none => [48]
  | .empty => [49]
  | .letter c => [UInt8.ofNat (97 + c.toNat)]
  | .not a => [33] ++ brk (a.lvl < 4) a.tx
  | .star a => brk (a.lvl < 5) a.tx ++ [42]
  | .join a b => brk (a.lvl < 3) a.tx ++ brk (b.lvl < 4) b.tx
  | .either a b => brk (a.lvl < 1) a.tx ++ [124] ++ brk (b.lvl < 2) b.tx
  | .both a b => brk (a.lvl < 2) a.tx ++ [38] ++ brk (b.lvl < 3) b.tx
theorem brk_len (b : Bool) (l : List UInt8) : (brk b l).length ≤ l.length + 2 := by unfold brk; split <;> simp
theorem tx_len (t : Re) : t.tx.length ≤ 5 * t.flat.length := by
  induction t with
  | none => decide
  | empty => decide
  | letter c => simp [Re.tx, Re.flat]
  | not a iha => have := brk_len (a.lvl < 4) a.tx; simp only [Re.tx, Re.flat, List.length_append, List.length_singleton]; omega
  | star a iha => have := brk_len (a.lvl < 5) a.tx; simp only [Re.tx, Re.flat, List.length_append, List.length_singleton]; omega
  | join a b iha ihb => have := brk_len (a.lvl < 3) a.tx; have := brk_len (b.lvl < 4) b.tx; simp only [Re.tx, Re.flat, List.length_append, List.length_singleton]; omega
  | either a b iha ihb => have := brk_len (a.lvl < 1) a.tx; have := brk_len (b.lvl < 2) b.tx; simp only [Re.tx, Re.flat, List.length_append, List.length_singleton]; omega
  | both a b iha ihb => have := brk_len (a.lvl < 2) a.tx; have := brk_len (b.lvl < 3) b.tx; simp only [Re.tx, Re.flat, List.length_append, List.length_singleton]; omega
/-- What waits to the left of an operand. -/
inductive Frm where
  | orL (a : Re) | andL (a : Re) | joinL (a : Re) | notF | par
def Frm.lvl : Frm → Nat
  | .orL _ => 1
  | .andL _ => 2
  | .joinL _ => 3
  | .notF => 4
  | .par => 0
def Frm.ap : Frm → Re → Re
  | .orL a, v => .either a v
  | .andL a, v => .both a v
  | .joinL a, v => .join a v
  | .notF, v => .not v
  | .par, v => v
/-- The operations that bind at least so tightly are made. -/
def clps (k : Nat) : List Frm → Re → List Frm × Re
  | [], v => ([], v)
  | f :: fr, v => if f.lvl = 0 ∨ f.lvl < k then (f :: fr, v) else clps k fr (f.ap v)
/-- A leaf, a bracket or a sign that begins an operand: what is there is its left neighbour. -/
def begins : List Frm × Option Re → List Frm
  | (fr, none) => fr
  | (fr, some v) => .joinL (clps 3 fr v).2 :: (clps 3 fr v).1
/-- One byte is read. -/
def rstep (s : List Frm × Option Re) (c : UInt8) : List Frm × Option Re :=
  if c = 48 then (begins s, some .none)
  else if c = 49 then (begins s, some .empty)
  else if c = 40 then (.par :: begins s, none)
  else if c = 33 then (.notF :: begins s, none)
  else if c = 42 then (s.1, s.2.map .star)
  else if c = 38 then (match s.2 with | some v => (.andL (clps 2 s.1 v).2 :: (clps 2 s.1 v).1, none) | none => s)
  else if c = 124 then (match s.2 with | some v => (.orL (clps 1 s.1 v).2 :: (clps 1 s.1 v).1, none) | none => s)
  else if c = 41 then (match s.2 with | some v => ((clps 1 s.1 v).1.tail, some (clps 1 s.1 v).2) | none => s)
  else (begins s, some (.letter ((c.toNat : Int) - 97)))
def rrun (l : List UInt8) (s : List Frm × Option Re) : List Frm × Option Re := l.foldl rstep s
theorem rrun_app (l m : List UInt8) (s : List Frm × Option Re) : rrun (l ++ m) s = rrun m (rrun l s) := List.foldl_append
/-- An operation of this level may stand behind these. -/
def okF (fr : List Frm) (n : Nat) : Prop := 4 ≤ n ∨ ∀ f rest, fr = f :: rest → f.lvl < n
theorem clps_ok {fr : List Frm} {n : Nat} (h : ∀ f rest, fr = f :: rest → f.lvl < n) (v : Re) : clps n fr v = (fr, v) := by
  cases fr with
  | nil => rfl
  | cons f rest => unfold clps; rw [if_pos (.inr (h f rest rfl))]
/-- What is read of an operand: behind it stands its value, but for what is still to be made. -/
def Red (l : List UInt8) (n : Nat) (t : Re) : Prop := ∀ fr, okF fr n → ∃ fr2 v, rrun l (fr, none) = (fr2, some v) ∧ (∀ k, 1 ≤ k → k ≤ n → clps k fr2 v = clps k fr t) ∧ (5 ≤ n → fr2 = fr ∧ v = t)
theorem red_mono {l : List UInt8} {n m : Nat} {t : Re} (h : Red l n t) (hm : 6 ≤ n) : Red l (m) t := fun fr _ => by
  obtain ⟨fr2, v, h1, h2, h3⟩ := h fr (.inl (by omega))
  obtain ⟨rfl, rfl⟩ := h3 (by omega)
  exact ⟨_, _, h1, fun k _ _ => rfl, fun _ => ⟨rfl, rfl⟩⟩
theorem red_brk {t : Re} (n : Nat) (h : Red t.tx t.lvl t) : ∀ fr, okF fr n → ∃ fr2 v, rrun (brk (t.lvl < n) t.tx) (fr, none) = (fr2, some v) ∧ (∀ k, 1 ≤ k → k ≤ n → clps k fr2 v = clps k fr t) ∧ (5 ≤ n → fr2 = fr ∧ v = t) := by
  intro fr hf
  unfold brk
  by_cases hl : t.lvl < n
  · rw [if_pos (by simpa using hl), rrun_app, rrun_app]
    obtain ⟨fr2, v, h1, h2, h3⟩ := h (.par :: fr) (.inr (fun f rest e => by cases e; exact lvl_pos t))
    have h0 : rrun [40] (fr, none) = (.par :: fr, none) := rfl
    rw [h0, h1]
    have h4 := h2 1 (Nat.le_refl _) (lvl_pos t)
    refine ⟨fr, t, ?_, fun k _ _ => rfl, fun _ => ⟨rfl, rfl⟩⟩
    show ((clps 1 fr2 v).1.tail, some (clps 1 fr2 v).2) = _
    rw [h4]; rfl
  · rw [if_neg (by simpa using hl)]
    have hf' : okF fr t.lvl := by
      rcases hf with hf | hf
      · exact .inl (by omega)
      · exact .inr fun f rest e => Nat.lt_of_lt_of_le (hf f rest e) (by omega)
    obtain ⟨fr2, v, h1, h2, h3⟩ := h fr hf'
    exact ⟨fr2, v, h1, fun k hk hk2 => h2 k hk (by omega), fun h5 => h3 (by omega)⟩
/-- The text of an operand begins a new one. -/
theorem tx_starts (t : Re) : t.wf → ∃ c l, t.tx = c :: l ∧ ∀ fr v, rstep (fr, some v) c = rstep (.joinL (clps 3 fr v).2 :: (clps 3 fr v).1, none) c := by
  have hb : ∀ (b : Bool) (l : List UInt8), (∃ c m, l = c :: m ∧ ∀ fr v, rstep (fr, some v) c = rstep (.joinL (clps 3 fr v).2 :: (clps 3 fr v).1, none) c) → ∃ c m, brk b l = c :: m ∧ ∀ fr v, rstep (fr, some v) c = rstep (.joinL (clps 3 fr v).2 :: (clps 3 fr v).1, none) c := by
    rintro b l ⟨c, m, rfl, h⟩
    cases b
    · exact ⟨c, m, rfl, h⟩
    · exact ⟨40, _, rfl, fun fr v => rfl⟩
  have ha : ∀ (x y : List UInt8), (∃ c m, x = c :: m ∧ ∀ fr v, rstep (fr, some v) c = rstep (.joinL (clps 3 fr v).2 :: (clps 3 fr v).1, none) c) → ∃ c m, x ++ y = c :: m ∧ ∀ fr v, rstep (fr, some v) c = rstep (.joinL (clps 3 fr v).2 :: (clps 3 fr v).1, none) c := by
    rintro x y ⟨c, m, rfl, h⟩
    exact ⟨c, m ++ y, rfl, h⟩
  induction t with
  | none => exact fun _ => ⟨48, [], rfl, fun fr v => rfl⟩
  | empty => exact fun _ => ⟨49, [], rfl, fun fr v => rfl⟩
  | letter c =>
    intro h
    refine ⟨_, [], rfl, fun fr v => ?_⟩
    rcases (by have := h.1; have := h.2; omega : c = 0 ∨ c = 1 ∨ c = 2) with rfl | rfl | rfl <;> rfl
  | not a iha => exact fun h => ⟨33, _, rfl, fun fr v => rfl⟩
  | star a iha => exact fun h => ha _ _ (hb _ _ (iha h))
  | join a b iha ihb => exact fun h => ha _ _ (hb _ _ (iha h.1))
  | either a b iha ihb => exact fun h => ha _ _ (ha _ _ (hb _ _ (iha h.1)))
  | both a b iha ihb => exact fun h => ha _ _ (ha _ _ (hb _ _ (iha h.1)))
theorem red (t : Re) : t.wf → Red t.tx t.lvl t := by
  induction t with
  | none => exact fun _ fr _ => ⟨fr, .none, rfl, fun k _ _ => rfl, fun _ => ⟨rfl, rfl⟩⟩
  | empty => exact fun _ fr _ => ⟨fr, .empty, rfl, fun k _ _ => rfl, fun _ => ⟨rfl, rfl⟩⟩
  | letter c =>
    intro h fr _
    refine ⟨fr, .letter c, ?_, fun k _ _ => rfl, fun _ => ⟨rfl, rfl⟩⟩
    rcases (by have := h.1; have := h.2; omega : c = 0 ∨ c = 1 ∨ c = 2) with rfl | rfl | rfl <;> rfl
  | not a iha =>
    intro h fr hf
    obtain ⟨fr2, v, h1, h2, h3⟩ := red_brk 4 (iha h) (.notF :: fr) (.inl (Nat.le_refl _))
    refine ⟨fr2, v, ?_, fun k hk hk4 => ?_, fun h5 => absurd h5 (show ¬ 5 ≤ 4 by decide)⟩
    · show rrun ([33] ++ _) _ = _
      rw [rrun_app]; exact h1
    · rw [h2 k hk hk4]
      have hk4' : k ≤ 4 := hk4
      show (if _ then _ else _) = _
      rw [if_neg (by simp only [Frm.lvl]; omega)]; rfl
  | star a iha =>
    intro h fr hf
    obtain ⟨fr2, v, h1, h2, h3⟩ := red_brk 5 (iha h) fr (.inl (by decide))
    obtain ⟨rfl, rfl⟩ := h3 (Nat.le_refl _)
    refine ⟨fr2, .star v, ?_, fun k hk hk4 => rfl, fun h5 => ⟨rfl, rfl⟩⟩
    show rrun (_ ++ [42]) _ = _
    rw [rrun_app, h1]; rfl
  | join a b iha ihb =>
    intro h fr hf
    have hf3 : ∀ f rest, fr = f :: rest → f.lvl < 3 := hf.elim (fun h => absurd h (show ¬ 4 ≤ 3 by decide)) id
    obtain ⟨fr2, v, h1, h2, h3⟩ := red_brk 3 (iha h.1) fr (.inr hf3)
    have h4 := h2 3 (by omega) (Nat.le_refl _)
    rw [clps_ok hf3] at h4
    obtain ⟨fr5, u, h5, h6, h7⟩ := red_brk 4 (ihb h.2) (.joinL a :: fr) (.inl (Nat.le_refl _))
    obtain ⟨c, l, hc, hs⟩ : ∃ c l, brk (b.lvl < 4) b.tx = c :: l ∧ ∀ fr v, rstep (fr, some v) c = rstep (.joinL (clps 3 fr v).2 :: (clps 3 fr v).1, none) c := by
      obtain ⟨c, l, hc, hs⟩ := tx_starts b h.2
      unfold brk; split
      · exact ⟨40, _, rfl, fun fr v => rfl⟩
      · exact ⟨c, l, hc, hs⟩
    refine ⟨fr5, u, ?_, fun k hk hk3 => ?_, fun h5 => absurd h5 (show ¬ 5 ≤ 3 by decide)⟩
    · show rrun (_ ++ _) _ = _
      rw [rrun_app, h1, ← h5, hc]
      show rrun l (rstep (fr2, some v) c) = rrun l (rstep (.joinL a :: fr, none) c)
      rw [hs, h4]
    · have hk3' : k ≤ 3 := hk3
      rw [h6 k hk (by omega)]
      show (if _ then _ else _) = _
      rw [if_neg (by simp only [Frm.lvl]; omega)]; rfl
  | either a b iha ihb =>
    intro h fr hf
    have hf3 : ∀ f rest, fr = f :: rest → f.lvl < 1 := hf.elim (fun h => absurd h (show ¬ 4 ≤ 1 by decide)) id
    obtain ⟨fr2, v, h1, h2, h3⟩ := red_brk 1 (iha h.1) fr (.inr hf3)
    have h4 := h2 1 (by omega) (Nat.le_refl _)
    rw [clps_ok hf3] at h4
    obtain ⟨fr5, u, h5, h6, h7⟩ := red_brk 2 (ihb h.2) (.orL a :: fr) (.inr fun f rest e => by cases e; simp [Frm.lvl])
    refine ⟨fr5, u, ?_, fun k hk hk3 => ?_, fun h5 => absurd h5 (show ¬ 5 ≤ 1 by decide)⟩
    · show rrun (_ ++ [124] ++ _) _ = _
      rw [rrun_app, rrun_app, h1, ← h5]
      show rrun _ (.orL (clps 1 fr2 v).2 :: (clps 1 fr2 v).1, none) = _
      rw [h4]
    · have hk3' : k ≤ 1 := hk3
      rw [h6 k hk (by omega)]
      show (if _ then _ else _) = _
      rw [if_neg (by simp only [Frm.lvl]; omega)]; rfl
  | both a b iha ihb =>
    intro h fr hf
    have hf3 : ∀ f rest, fr = f :: rest → f.lvl < 2 := hf.elim (fun h => absurd h (show ¬ 4 ≤ 2 by decide)) id
    obtain ⟨fr2, v, h1, h2, h3⟩ := red_brk 2 (iha h.1) fr (.inr hf3)
    have h4 := h2 2 (by omega) (Nat.le_refl _)
    rw [clps_ok hf3] at h4
    obtain ⟨fr5, u, h5, h6, h7⟩ := red_brk 3 (ihb h.2) (.andL a :: fr) (.inr fun f rest e => by cases e; simp [Frm.lvl])
    refine ⟨fr5, u, ?_, fun k hk hk3 => ?_, fun h5 => absurd h5 (show ¬ 5 ≤ 2 by decide)⟩
    · show rrun (_ ++ [38] ++ _) _ = _
      rw [rrun_app, rrun_app, h1, ← h5]
      show rrun _ (.andL (clps 2 fr2 v).2 :: (clps 2 fr2 v).1, none) = _
      rw [h4]
    · have hk3' : k ≤ 2 := hk3
      rw [h6 k hk (by omega)]
      show (if _ then _ else _) = _
      rw [if_neg (by simp only [Frm.lvl]; omega)]; rfl
/-- The text tells the expression. -/
theorem tx_inj {t u : Re} (ht : t.wf) (hu : u.wf) (h : t.tx = u.tx) : t = u := by
  obtain ⟨fr, v, h1, h2, _⟩ := red t ht [] (.inr fun f rest e => by cases e)
  obtain ⟨fr', v', h1', h2', _⟩ := red u hu [] (.inr fun f rest e => by cases e)
  rw [h] at h1
  rw [h1] at h1'
  injection h1' with e1 e2
  injection e2 with e2
  subst e1 e2
  have e3 := h2 1 (Nat.le_refl _) (lvl_pos t)
  have e4 := h2' 1 (Nat.le_refl _) (lvl_pos u)
  rw [e3] at e4
  exact congrArg Prod.snd e4
end Go.Proofs.Ytbcjhiponbfbnaa
namespace Go.Proofs.Ytbcjhiponbfbnaa
open Go.RowKit Go.ChangeMaps
set_option maxRecDepth 100000
variable {S T : Nat → Prop}
/-- The call answers this text. -/
def RTx (w : World) (l : List UInt8) (e : Ending) (w' : World) : Prop := ∃ s : ByteArray, e = .returned (.string s) ∧ Below w.heap.size w w' ∧ Hid (s.data.toList = l)
theorem RTx.mk {w w' : World} {l : List UInt8} {s : ByteArray} (hb : Below w.heap.size w w') (h : s.data.toList = l) : RTx w l (.returned (.string s)) w' := ⟨s, rfl, hb, h⟩
theorem baApp (s t : ByteArray) : (s ++ t).data.toList = s.data.toList ++ t.data.toList := by rw [ByteArray.data_append, Array.toList_append]
theorem baSize {s : ByteArray} {l : List UInt8} (h : s.data.toList = l) : s.size = l.length := by rw [← h]; simp
theorem binding_c (t : Re) (w : World) : Calls Try.prog 98 #[.int .i64 t.top] w (RI w fun n => n = (t.lvl : Int)) := by
  have key : ∀ (k : Int) (n : Nat), ((k = 1 ∧ n = 6) ∨ (k = 2 ∧ n = 6) ∨ (k = 3 ∧ n = 6) ∨ (k = 4 ∧ n = 3) ∨ (k = 5 ∧ n = 1) ∨ (k = 6 ∧ n = 2) ∨ (k = 7 ∧ n = 4) ∨ (k = 8 ∧ n = 5)) → Calls Try.prog 98 #[.int .i64 k] w (RI w fun m => m = (n : Int)) := by
    rintro k n (⟨rfl, rfl⟩ | ⟨rfl, rfl⟩ | ⟨rfl, rfl⟩ | ⟨rfl, rfl⟩ | ⟨rfl, rfl⟩ | ⟨rfl, rfl⟩ | ⟨rfl, rfl⟩ | ⟨rfl, rfl⟩)
    all_goals (
      go_enter Try.func98, Try.ntmps98
      go_wp2
      go_ret
      exact RI.mk rfl)
  refine key _ _ ?_
  cases t <;> simp [Re.top, Re.lvl]
theorem letterTx_c (c : Int) (hc : 0 ≤ c ∧ c ≤ 2) (w : World) : Calls Try.prog 99 #[.int .i64 c] w (RTx w [UInt8.ofNat (97 + c.toNat)]) := by
  rcases (by omega : c = 0 ∨ c = 1 ∨ c = 2) with rfl | rfl | rfl
  all_goals (
    go_enter Try.func99, Try.ntmps99
    go_wp2
    go_ret
    exact RTx.mk (Below.refl _ _) rfl)
set_option maxHeartbeats 800000 in
theorem bracketed_c (t : Re) (n : Nat) (hn : n ≤ 10) (hl : t.len ≤ 60) (ih : ∀ (w : World) (v : Value), PR w v t → Calls Try.prog 60 #[v] w (RTx w t.tx)) (u : Value) (w : World) (h : PR w u t) : Calls Try.prog 101 #[u, .int .i64 n] w (RTx w (brk (t.lvl < n) t.tx)) := by
  have htl := tx_len t
  have hl2 : t.flat.length ≤ 60 := hl
  obtain ⟨bb, off, cap, m, rfl, hm1, hm2, c0, c1⟩ := h.last
  have hm60 : m ≤ 60 := by omega
  have hI : IntKind.i64.wrap ((m + 1 : Nat) - 1 : Int) = (m : Int) := by rw [show (((m + 1 : Nat) : Int) - 1) = (m : Int) by omega]; exact IntWalk.i64_in _ (by omega)
  have hlt : (m : Int) < (m : Int) + 1 := by omega
  have H := Lib.hid h
  have HB := Lib.hid (binding_c t w)
  obtain ⟨x, hx⟩ : ∃ x, x = t.top := ⟨_, rfl⟩
  rw [← hx] at c0 HB
  have HT : Hid (t.tx.length ≤ 300) := Lib.hid (by omega)
  have IH := Lib.hid ih
  clear h hm1 hm2 c1 hx htl hl hl2 ih
  go_enter Try.func101, Try.ntmps101
  go_wp2_with fail
  refine HB.out.mono ?_
  rintro e w1 ⟨y, rfl, rfl, hy⟩
  obtain rfl := hy.out
  clear hy
  by_cases hlv : t.lvl < n
  · have hlI : (t.lvl : Int) < (n : Int) := by omega
    have HE : Hid (brk (t.lvl < n) t.tx = [40] ++ t.tx ++ [41]) := Lib.hid (by unfold brk; rw [if_pos (by simpa using hlv)])
    go_wp2_with fail
    refine (IH.out w _ H.out).mono ?_
    rintro e w2 ⟨s, rfl, hb2, hs⟩
    have hsz := baSize hs.out
    have hs3 := HT.out
    have hcc : ¬ (9223372036854775807 < (⟨#[40]⟩ : ByteArray).size + s.size) := by show ¬ (9223372036854775807 < 1 + s.size); omega
    have hcd : ¬ (9223372036854775807 < (⟨#[40]⟩ ++ s : ByteArray).size + (⟨#[41]⟩ : ByteArray).size) := by rw [ByteArray.size_append]; show ¬ (9223372036854775807 < 1 + s.size + 1); omega
    go_wp2
    go_ret
    exact RTx.mk hb2 (by rw [HE.out, baApp, baApp, hs.out])
  · have hlI : ¬ ((t.lvl : Int) < (n : Int)) := by omega
    have HE : Hid (brk (t.lvl < n) t.tx = t.tx) := Lib.hid (by unfold brk; rw [if_neg (by simpa using hlv)])
    go_wp2_with fail
    refine (IH.out w _ H.out).mono ?_
    rintro e w2 ⟨s, rfl, hb2, hs⟩
    go_wp2
    go_ret
    exact RTx.mk hb2 (by rw [HE.out, hs.out])
/-- The signs of the operations, a map of three. -/
theorem signs (w : World) : ∃ w2 w3 w4 : World, (Instr.mapUpdate 120 (.map (some w.heap.size)) (.int .i64 4) (.string ⟨#[]⟩)).run Try.prog (w.alloc (.map #[] 0)) = .ok () w2 ∧
    (Instr.mapUpdate 120 (.map (some w.heap.size)) (.int .i64 5) (.string ⟨#[124]⟩)).run Try.prog w2 = .ok () w3 ∧ (Instr.mapUpdate 120 (.map (some w.heap.size)) (.int .i64 6) (.string ⟨#[38]⟩)).run Try.prog w3 = .ok () w4 ∧
    Below w.heap.size w w4 ∧ (Instr.lookup 120 (.map (some w.heap.size)) (.int .i64 4) false).run Try.prog w4 = .ok (.string ⟨#[]⟩) w4 ∧ (Instr.lookup 120 (.map (some w.heap.size)) (.int .i64 5) false).run Try.prog w4 = .ok (.string ⟨#[124]⟩) w4 ∧
    (Instr.lookup 120 (.map (some w.heap.size)) (.int .i64 6) false).run Try.prog w4 = .ok (.string ⟨#[38]⟩) w4 := by
  have K : Maps.Keyed Try.prog 3 := Maps.int_keyed Try.underlying3
  have ul := Try.underlying120
  have hk : ∀ n : Nat, n ≤ 100 → ∃ l, keyOf Try.prog 3 (.int .i64 n) = some l := fun n hn => ⟨_, Maps.keyOf_int_mk Try.underlying3 (by have h1 : IntKind.i64.min = -9223372036854775808 := rfl; have h2 : IntKind.i64.max = 9223372036854775807 := rfl; simp [Lit.wf]; omega)⟩
  have hz : ∀ w, ∃ z, (zeroValue 9).run Try.prog w = .ok z w := fun w => ⟨.string ByteArray.empty, by kernel_rfl⟩
  have k4 : ∃ l, keyOf Try.prog 3 (.int .i64 4) = some l := hk 4 (by omega)
  have k5 : ∃ l, keyOf Try.prog 3 (.int .i64 5) = some l := hk 5 (by omega)
  have k6 : ∃ l, keyOf Try.prog 3 (.int .i64 6) = some l := hk 6 (by omega)
  have m0 := MEN.made w
  have m1 := MEN.set (es' := [(.int .i64 4, .string ⟨#[]⟩)]) m0
  have e1 := mNew (v := .string ⟨#[]⟩) K ul m0 k4 (by intro p hp; cases hp) (by intro p hp; cases hp)
  have m2 := MEN.set (es' := [(.int .i64 4, .string ⟨#[]⟩), (.int .i64 5, .string ⟨#[124]⟩)]) m1
  have e2 := mNew (v := .string ⟨#[124]⟩) K ul m1 k5 (by intro p hp; simp at hp; subst hp; exact k4) (by intro p hp; simp at hp; subst hp; simp)
  have m3 := MEN.set (es' := [(.int .i64 4, .string ⟨#[]⟩), (.int .i64 5, .string ⟨#[124]⟩), (.int .i64 6, .string ⟨#[38]⟩)]) m2
  have e3 := mNew (v := .string ⟨#[38]⟩) K ul m2 k6 (by intro p hp; simp at hp; rcases hp with rfl | rfl; exact k4; exact k5) (by intro p hp; simp at hp; rcases hp with rfl | rfl <;> simp)
  have hes : KeysIn 3 [((.int .i64 4 : Value), (.string ⟨#[]⟩ : Value)), (.int .i64 5, .string ⟨#[124]⟩), (.int .i64 6, .string ⟨#[38]⟩)] := by
    intro p hp; simp at hp; rcases hp with rfl | rfl | rfl; exact k4; exact k5; exact k6
  refine ⟨_, _, _, e1, e2, e3, ?_, mGet K ul (hz _) m3 k4 hes (by simp) (by intro p hp; simp at hp; rcases hp with rfl | rfl | rfl <;> simp), mGet K ul (hz _) m3 k5 hes (by simp) (by intro p hp; simp at hp; rcases hp with rfl | rfl | rfl <;> simp), mGet K ul (hz _) m3 k6 hes (by simp) (by intro p hp; simp at hp; rcases hp with rfl | rfl | rfl <;> simp)⟩
  have b0 : Below w.heap.size w (w.alloc (.map #[] 0)) := (Below.refl _ _).alloc (Nat.le_refl _) _
  have z1 := (MEN.grown m0 (.map (EN [((.int .i64 4 : Value), (.string ⟨#[]⟩ : Value))]) 1)).size
  have b1 := b0.grown (MEN.grown m0 (.map (EN [((.int .i64 4 : Value), (.string ⟨#[]⟩ : Value))]) 1)) b0.size (fun k hk => by cases hk; exact Nat.le_refl _)
  have b2 := b1.grown (MEN.grown m1 (.map (EN [((.int .i64 4 : Value), (.string ⟨#[]⟩ : Value)), (.int .i64 5, .string ⟨#[124]⟩)]) 2)) b1.size (fun k hk => by cases hk; exact Nat.le_refl _)
  exact b2.grown (MEN.grown m2 (.map (EN [((.int .i64 4 : Value), (.string ⟨#[]⟩ : Value)), (.int .i64 5, .string ⟨#[124]⟩), (.int .i64 6, .string ⟨#[38]⟩)]) 3)) b2.size (fun k hk => by cases hk; exact Nat.le_refl _)
set_option maxHeartbeats 800000 in
theorem etx_none (u : Value) (w : World) (h : PR w u .none) : Calls Try.prog 60 #[u] w (RTx w (Re.tx .none)) := by
  have hmm : (Re.none).flat.length = 1 := rfl
  have HE : Hid ((⟨#[48]⟩ : ByteArray).data.toList = (Re.none).tx) := Lib.hid rfl
  have ht := h.1
  have htl := tx_len (Re.none)
  obtain ⟨bb, off, cap, m, rfl, hm1, hm2, c0, c1⟩ := h.last
  replace c0 : w.cell? ⟨bb, off + m * 2, none⟩ = some (.int .i64 1) := c0
  replace c1 : w.cell? ⟨bb, off + m * 2 + 1, none⟩ = some (.int .i64 0) := c1
  have hm60 : m ≤ 60 := by omega
  have hI : IntKind.i64.wrap ((m + 1 : Nat) - 1 : Int) = (m : Int) := by rw [show (((m + 1 : Nat) : Int) - 1) = (m : Int) by omega]; exact IntWalk.i64_in _ (by omega)
  have hlt : (m : Int) < (m : Int) + 1 := by omega
  obtain ⟨W, hW⟩ : ∃ W, W = w.alloc (.cells #[.int .i64 1, .int .i64 0] 67) := ⟨_, rfl⟩
  have hBW : Below w.heap.size w W := by rw [hW]; exact (Below.refl _ _).alloc (Nat.le_refl _) _
  have KW : Hid (W.heap[w.heap.size]? = some (.cells #[.int .i64 1, .int .i64 0] 67 (0, 0))) := Lib.hid (by rw [hW]; exact blkNew _ _ rfl)
  have HH := Lib.hid (h.stay hBW)
  have HBW := Lib.hid hBW
  have HW := Lib.hid hW
  have HBD : Hid (Calls Try.prog 98 #[.int .i64 1] W (RI W fun n => n = ((Re.none).lvl : Int))) := Lib.hid (binding_c (Re.none) W)
  obtain ⟨q0, q1, f0, f1⟩ := blk2 KW.out
  obtain rfl : m = 0 := by omega
  simp only [Nat.zero_mul, Nat.add_zero] at c0 c1
  clear h hm1 hm2 hBW hW ht htl hmm
  rw [HW.out] at q0 q1 f0 f1
  go_enter Try.func60, Try.ntmps60
  go_wp2_with fail
  rw [← HW.out] at q0 q1 f0 f1 ⊢
  refine HBD.out.mono ?_
  rintro e w1 ⟨y, rfl, rfl, hy⟩
  obtain rfl := hy.out
  clear hy HBD
  go_wp2
  go_ret
  exact RTx.mk HBW.out HE.out
set_option maxHeartbeats 800000 in
theorem etx_empty (u : Value) (w : World) (h : PR w u .empty) : Calls Try.prog 60 #[u] w (RTx w (Re.tx .empty)) := by
  have hmm : (Re.empty).flat.length = 1 := rfl
  have HE : Hid ((⟨#[49]⟩ : ByteArray).data.toList = (Re.empty).tx) := Lib.hid rfl
  have ht := h.1
  have htl := tx_len (Re.empty)
  obtain ⟨bb, off, cap, m, rfl, hm1, hm2, c0, c1⟩ := h.last
  replace c0 : w.cell? ⟨bb, off + m * 2, none⟩ = some (.int .i64 2) := c0
  replace c1 : w.cell? ⟨bb, off + m * 2 + 1, none⟩ = some (.int .i64 0) := c1
  have hm60 : m ≤ 60 := by omega
  have hI : IntKind.i64.wrap ((m + 1 : Nat) - 1 : Int) = (m : Int) := by rw [show (((m + 1 : Nat) : Int) - 1) = (m : Int) by omega]; exact IntWalk.i64_in _ (by omega)
  have hlt : (m : Int) < (m : Int) + 1 := by omega
  obtain ⟨W, hW⟩ : ∃ W, W = w.alloc (.cells #[.int .i64 2, .int .i64 0] 67) := ⟨_, rfl⟩
  have hBW : Below w.heap.size w W := by rw [hW]; exact (Below.refl _ _).alloc (Nat.le_refl _) _
  have KW : Hid (W.heap[w.heap.size]? = some (.cells #[.int .i64 2, .int .i64 0] 67 (0, 0))) := Lib.hid (by rw [hW]; exact blkNew _ _ rfl)
  have HH := Lib.hid (h.stay hBW)
  have HBW := Lib.hid hBW
  have HW := Lib.hid hW
  have HBD : Hid (Calls Try.prog 98 #[.int .i64 2] W (RI W fun n => n = ((Re.empty).lvl : Int))) := Lib.hid (binding_c (Re.empty) W)
  obtain ⟨q0, q1, f0, f1⟩ := blk2 KW.out
  obtain rfl : m = 0 := by omega
  simp only [Nat.zero_mul, Nat.add_zero] at c0 c1
  clear h hm1 hm2 hBW hW ht htl hmm
  rw [HW.out] at q0 q1 f0 f1
  go_enter Try.func60, Try.ntmps60
  go_wp2_with fail
  rw [← HW.out] at q0 q1 f0 f1 ⊢
  refine HBD.out.mono ?_
  rintro e w1 ⟨y, rfl, rfl, hy⟩
  obtain rfl := hy.out
  clear hy HBD
  go_wp2
  go_ret
  exact RTx.mk HBW.out HE.out
set_option maxHeartbeats 800000 in
theorem etx_letter (d : Int) (u : Value) (w : World) (h : PR w u (.letter d)) : Calls Try.prog 60 #[u] w (RTx w (Re.tx (.letter d))) := by
  have hmm : (Re.letter d).flat.length = 1 := rfl
  have HD : Hid (0 ≤ d ∧ d ≤ 2) := Lib.hid h.1
  have ht := h.1
  have htl := tx_len (Re.letter d)
  obtain ⟨bb, off, cap, m, rfl, hm1, hm2, c0, c1⟩ := h.last
  replace c0 : w.cell? ⟨bb, off + m * 2, none⟩ = some (.int .i64 3) := c0
  replace c1 : w.cell? ⟨bb, off + m * 2 + 1, none⟩ = some (.int .i64 d) := c1
  have hm60 : m ≤ 60 := by omega
  have hI : IntKind.i64.wrap ((m + 1 : Nat) - 1 : Int) = (m : Int) := by rw [show (((m + 1 : Nat) : Int) - 1) = (m : Int) by omega]; exact IntWalk.i64_in _ (by omega)
  have hlt : (m : Int) < (m : Int) + 1 := by omega
  obtain ⟨W, hW⟩ : ∃ W, W = w.alloc (.cells #[.int .i64 3, .int .i64 d] 67) := ⟨_, rfl⟩
  have hBW : Below w.heap.size w W := by rw [hW]; exact (Below.refl _ _).alloc (Nat.le_refl _) _
  have KW : Hid (W.heap[w.heap.size]? = some (.cells #[.int .i64 3, .int .i64 d] 67 (0, 0))) := Lib.hid (by rw [hW]; exact blkNew _ _ rfl)
  have HH := Lib.hid (h.stay hBW)
  have HBW := Lib.hid hBW
  have HW := Lib.hid hW
  have HBD : Hid (Calls Try.prog 98 #[.int .i64 3] W (RI W fun n => n = ((Re.letter d).lvl : Int))) := Lib.hid (binding_c (Re.letter d) W)
  obtain ⟨q0, q1, f0, f1⟩ := blk2 KW.out
  obtain rfl : m = 0 := by omega
  simp only [Nat.zero_mul, Nat.add_zero] at c0 c1
  clear h hm1 hm2 hBW hW ht htl hmm
  rw [HW.out] at q0 q1 f0 f1
  go_enter Try.func60, Try.ntmps60
  go_wp2_with fail
  rw [← HW.out] at q0 q1 f0 f1 ⊢
  refine HBD.out.mono ?_
  rintro e w1 ⟨y, rfl, rfl, hy⟩
  obtain rfl := hy.out
  clear hy HBD
  go_wp2_with fail
  refine (letterTx_c d HD.out W).mono ?_
  rintro e w2 ⟨s, rfl, hb2, hs⟩
  go_wp2
  go_ret
  exact RTx.mk (HBW.out.trans (hb2.mono HBW.out.size)) hs.out
set_option maxHeartbeats 800000 in
theorem etx_not (a : Re) (hl : a.len ≤ 59) (iha : ∀ (w : World) (v : Value), PR w v a → Calls Try.prog 60 #[v] w (RTx w a.tx)) (u : Value) (w : World) (h : PR w u (.not a)) : Calls Try.prog 60 #[u] w (RTx w (Re.tx (.not a))) := by
  have hla : a.flat.length ≤ 59 := hl
  have hmm : (Re.not a).flat.length = a.flat.length + 1 := len_not a
  have hta := tx_len a
  have htb := brk_len (a.lvl < 4) a.tx
  have HT : Hid ((brk (a.lvl < 4) a.tx).length ≤ 400) := Lib.hid (by omega)
  have HE : Hid ((Re.not a).tx = [33] ++ brk (a.lvl < 4) a.tx) := Lib.hid rfl
  have ht := h.1
  have htl := tx_len (Re.not a)
  obtain ⟨bb, off, cap, m, rfl, hm1, hm2, c0, c1⟩ := h.last
  replace c0 : w.cell? ⟨bb, off + m * 2, none⟩ = some (.int .i64 7) := c0
  replace c1 : w.cell? ⟨bb, off + m * 2 + 1, none⟩ = some (.int .i64 0) := c1
  have hm60 : m ≤ 60 := by omega
  have hI : IntKind.i64.wrap ((m + 1 : Nat) - 1 : Int) = (m : Int) := by rw [show (((m + 1 : Nat) : Int) - 1) = (m : Int) by omega]; exact IntWalk.i64_in _ (by omega)
  have hlt : (m : Int) < (m : Int) + 1 := by omega
  obtain ⟨W, hW⟩ : ∃ W, W = w.alloc (.cells #[.int .i64 7, .int .i64 0] 67) := ⟨_, rfl⟩
  have hBW : Below w.heap.size w W := by rw [hW]; exact (Below.refl _ _).alloc (Nat.le_refl _) _
  have KW : Hid (W.heap[w.heap.size]? = some (.cells #[.int .i64 7, .int .i64 0] 67 (0, 0))) := Lib.hid (by rw [hW]; exact blkNew _ _ rfl)
  have HH := Lib.hid (h.stay hBW)
  have HBW := Lib.hid hBW
  have HW := Lib.hid hW
  have HBD : Hid (Calls Try.prog 98 #[.int .i64 7] W (RI W fun n => n = ((Re.not a).lvl : Int))) := Lib.hid (binding_c (Re.not a) W)
  obtain ⟨q0, q1, f0, f1⟩ := blk2 KW.out
  have HA : Hid a.wf := Lib.hid ht
  have IA := Lib.hid iha
  have HOP := Lib.hid (operands1_c _ a 7 0 W ht HH.out.2 (by decide) (by decide) hla)
  have HL := Lib.hid (show a.len ≤ 60 by omega)
  have hlv : ((Re.not a).lvl : Int) = ((4 : Nat) : Int) := rfl
  clear h hm1 hm2 hBW hW ht htl hmm hla hta htb hl iha
  rw [HW.out] at q0 q1 f0 f1
  go_enter Try.func60, Try.ntmps60
  go_wp2_with fail
  rw [← HW.out] at q0 q1 f0 f1 ⊢
  refine HBD.out.mono ?_
  rintro e w1 ⟨y, rfl, rfl, hy⟩
  obtain rfl := hy.out
  clear hy HBD
  rw [hlv]
  clear hlv
  go_wp2_with fail
  refine HOP.out.mono ?_
  rintro e w1 ⟨vo, rfl, hb1, ho⟩
  have K1 := Lib.hid (blkBel hb1 KW.out)
  have HB1 := Lib.hid (HBW.out.trans (hb1.mono HBW.out.size))
  obtain ⟨g, cg, ad1, cap1, rfl, _, _, kc1, kf1, hP1⟩ := ho.out.at
  have HP1 : Hid (PR w1 _ a) := Lib.hid (PR.of HA.out hP1 hb1); clear hP1
  clear ho HOP q0 q1 f0 f1 KW hb1
  go_wp2_with fail
  refine (bracketed_c a 4 (by omega) HL.out IA.out _ w1 HP1.out).mono ?_
  rintro e w2 ⟨s, rfl, hb2, hs⟩
  have K2 := Lib.hid (blkBel hb2 K1.out)
  obtain ⟨q0, q1, f0, f1⟩ := blk2 K2.out
  have HB2 := Lib.hid (HB1.out.trans (hb2.mono HB1.out.size))
  have hsz := baSize hs.out
  have hs3 := HT.out
  have hcc : ¬ (9223372036854775807 < (⟨#[33]⟩ : ByteArray).size + s.size) := by show ¬ (9223372036854775807 < 1 + s.size); omega
  go_wp2
  go_ret
  exact RTx.mk HB2.out (by rw [HE.out, baApp, hs.out])
set_option maxHeartbeats 800000 in
theorem etx_star (a : Re) (hl : a.len ≤ 59) (iha : ∀ (w : World) (v : Value), PR w v a → Calls Try.prog 60 #[v] w (RTx w a.tx)) (u : Value) (w : World) (h : PR w u (.star a)) : Calls Try.prog 60 #[u] w (RTx w (Re.tx (.star a))) := by
  have hla : a.flat.length ≤ 59 := hl
  have hmm : (Re.star a).flat.length = a.flat.length + 1 := len_star a
  have hta := tx_len a
  have htb := brk_len (a.lvl < 5) a.tx
  have HT : Hid ((brk (a.lvl < 5) a.tx).length ≤ 400) := Lib.hid (by omega)
  have HE : Hid ((Re.star a).tx = brk (a.lvl < 5) a.tx ++ [42]) := Lib.hid rfl
  have ht := h.1
  have htl := tx_len (Re.star a)
  obtain ⟨bb, off, cap, m, rfl, hm1, hm2, c0, c1⟩ := h.last
  replace c0 : w.cell? ⟨bb, off + m * 2, none⟩ = some (.int .i64 8) := c0
  replace c1 : w.cell? ⟨bb, off + m * 2 + 1, none⟩ = some (.int .i64 0) := c1
  have hm60 : m ≤ 60 := by omega
  have hI : IntKind.i64.wrap ((m + 1 : Nat) - 1 : Int) = (m : Int) := by rw [show (((m + 1 : Nat) : Int) - 1) = (m : Int) by omega]; exact IntWalk.i64_in _ (by omega)
  have hlt : (m : Int) < (m : Int) + 1 := by omega
  obtain ⟨W, hW⟩ : ∃ W, W = w.alloc (.cells #[.int .i64 8, .int .i64 0] 67) := ⟨_, rfl⟩
  have hBW : Below w.heap.size w W := by rw [hW]; exact (Below.refl _ _).alloc (Nat.le_refl _) _
  have KW : Hid (W.heap[w.heap.size]? = some (.cells #[.int .i64 8, .int .i64 0] 67 (0, 0))) := Lib.hid (by rw [hW]; exact blkNew _ _ rfl)
  have HH := Lib.hid (h.stay hBW)
  have HBW := Lib.hid hBW
  have HW := Lib.hid hW
  have HBD : Hid (Calls Try.prog 98 #[.int .i64 8] W (RI W fun n => n = ((Re.star a).lvl : Int))) := Lib.hid (binding_c (Re.star a) W)
  obtain ⟨q0, q1, f0, f1⟩ := blk2 KW.out
  have HA : Hid a.wf := Lib.hid ht
  have IA := Lib.hid iha
  have HOP := Lib.hid (operands1_c _ a 8 0 W ht HH.out.2 (by decide) (by decide) hla)
  have HL := Lib.hid (show a.len ≤ 60 by omega)
  have hlv : ((Re.star a).lvl : Int) = ((5 : Nat) : Int) := rfl
  clear h hm1 hm2 hBW hW ht htl hmm hla hta htb hl iha
  rw [HW.out] at q0 q1 f0 f1
  go_enter Try.func60, Try.ntmps60
  go_wp2_with fail
  rw [← HW.out] at q0 q1 f0 f1 ⊢
  refine HBD.out.mono ?_
  rintro e w1 ⟨y, rfl, rfl, hy⟩
  obtain rfl := hy.out
  clear hy HBD
  rw [hlv]
  clear hlv
  go_wp2_with fail
  refine HOP.out.mono ?_
  rintro e w1 ⟨vo, rfl, hb1, ho⟩
  have K1 := Lib.hid (blkBel hb1 KW.out)
  have HB1 := Lib.hid (HBW.out.trans (hb1.mono HBW.out.size))
  obtain ⟨g, cg, ad1, cap1, rfl, _, _, kc1, kf1, hP1⟩ := ho.out.at
  have HP1 : Hid (PR w1 _ a) := Lib.hid (PR.of HA.out hP1 hb1); clear hP1
  clear ho HOP q0 q1 f0 f1 KW hb1
  go_wp2_with fail
  refine (bracketed_c a 5 (by omega) HL.out IA.out _ w1 HP1.out).mono ?_
  rintro e w2 ⟨s, rfl, hb2, hs⟩
  have K2 := Lib.hid (blkBel hb2 K1.out)
  obtain ⟨q0, q1, f0, f1⟩ := blk2 K2.out
  have HB2 := Lib.hid (HB1.out.trans (hb2.mono HB1.out.size))
  have hsz := baSize hs.out
  have hs3 := HT.out
  have hcc : ¬ (9223372036854775807 < s.size + (⟨#[42]⟩ : ByteArray).size) := by show ¬ (9223372036854775807 < s.size + 1); omega
  go_wp2
  go_ret
  exact RTx.mk HB2.out (by rw [HE.out, baApp, hs.out])
set_option maxHeartbeats 1600000 in
theorem etx_join (a b : Re) (hl : a.len + b.len ≤ 59) (iha : ∀ (w : World) (v : Value), PR w v a → Calls Try.prog 60 #[v] w (RTx w a.tx)) (ihb : ∀ (w : World) (v : Value), PR w v b → Calls Try.prog 60 #[v] w (RTx w b.tx)) (u : Value) (w : World) (h : PR w u (.join a b)) : Calls Try.prog 60 #[u] w (RTx w (Re.tx (.join a b))) := by
  have hlab : (a.flat ++ b.flat).length ≤ 59 := by rw [List.length_append]; exact hl
  have hl2 : a.flat.length + b.flat.length ≤ 59 := hl
  have hmm : (Re.join a b).flat.length = a.flat.length + b.flat.length + 1 := len_join a b
  have hta := tx_len a
  have htb := brk_len (a.lvl < 3) a.tx
  have htc := tx_len b
  have htd := brk_len (b.lvl < 4) b.tx
  have HT : Hid ((brk (a.lvl < 3) a.tx).length ≤ 400 ∧ (brk (b.lvl < 4) b.tx).length ≤ 400) := Lib.hid (by omega)
  have HE : Hid ((Re.join a b).tx = brk (a.lvl < 3) a.tx ++ brk (b.lvl < 4) b.tx) := Lib.hid rfl
  have ht := h.1
  have htl := tx_len (Re.join a b)
  obtain ⟨bb, off, cap, m, rfl, hm1, hm2, c0, c1⟩ := h.last
  replace c0 : w.cell? ⟨bb, off + m * 2, none⟩ = some (.int .i64 4) := c0
  replace c1 : w.cell? ⟨bb, off + m * 2 + 1, none⟩ = some (.int .i64 0) := c1
  have hm60 : m ≤ 60 := by omega
  have hI : IntKind.i64.wrap ((m + 1 : Nat) - 1 : Int) = (m : Int) := by rw [show (((m + 1 : Nat) : Int) - 1) = (m : Int) by omega]; exact IntWalk.i64_in _ (by omega)
  have hlt : (m : Int) < (m : Int) + 1 := by omega
  obtain ⟨W, hW⟩ : ∃ W, W = w.alloc (.cells #[.int .i64 4, .int .i64 0] 67) := ⟨_, rfl⟩
  have hBW : Below w.heap.size w W := by rw [hW]; exact (Below.refl _ _).alloc (Nat.le_refl _) _
  have KW : Hid (W.heap[w.heap.size]? = some (.cells #[.int .i64 4, .int .i64 0] 67 (0, 0))) := Lib.hid (by rw [hW]; exact blkNew _ _ rfl)
  have HH := Lib.hid (h.stay hBW)
  have HBW := Lib.hid hBW
  have HW := Lib.hid hW
  have HBD : Hid (Calls Try.prog 98 #[.int .i64 4] W (RI W fun n => n = ((Re.join a b).lvl : Int))) := Lib.hid (binding_c (Re.join a b) W)
  obtain ⟨q0, q1, f0, f1⟩ := blk2 KW.out
  have HA : Hid a.wf := Lib.hid ht.1
  have HB : Hid b.wf := Lib.hid ht.2
  have IA := Lib.hid iha; have IB := Lib.hid ihb
  have HOP := Lib.hid (operands2_c _ a b 4 0 W ht.1 ht.2 HH.out.2 (by decide) (by decide) hlab)
  have HL := Lib.hid (show a.len ≤ 60 ∧ b.len ≤ 60 by omega)
  have hlv : ((Re.join a b).lvl : Int) = ((3 : Nat) : Int) := rfl
  clear h hm1 hm2 hBW hW ht htl hmm hlab hl2 hta htb htc htd hl iha ihb
  rw [HW.out] at q0 q1 f0 f1
  go_enter Try.func60, Try.ntmps60
  go_wp2_with fail
  rw [← HW.out] at q0 q1 f0 f1 ⊢
  refine HBD.out.mono ?_
  rintro e w1 ⟨y, rfl, rfl, hy⟩
  obtain rfl := hy.out
  clear hy HBD
  rw [hlv]
  clear hlv
  go_wp2_with fail
  refine HOP.out.mono ?_
  rintro e w1 ⟨vo, rfl, hb1, ho⟩
  have K1 := Lib.hid (blkBel hb1 KW.out)
  have HB1 := Lib.hid (HBW.out.trans (hb1.mono HBW.out.size))
  obtain ⟨g, cg, ad1, cap1, ad2, cap2, rfl, _, _, kc1, kc2, hP1, hP2⟩ := ho.out.at
  have HP1 : Hid (PR w1 _ a) := Lib.hid (PR.of HA.out hP1 hb1); have HP2 : Hid (PR w1 _ b) := Lib.hid (PR.of HB.out hP2 hb1); clear hP1 hP2
  clear ho HOP q0 q1 f0 f1 KW hb1
  go_wp2_with fail
  refine (bracketed_c a 3 (by omega) HL.out.1 IA.out _ w1 HP1.out).mono ?_
  rintro e w2 ⟨s, rfl, hb2, hs⟩
  have K2 := Lib.hid (blkBel hb2 K1.out)
  obtain ⟨q0, q1, f0, f1⟩ := blk2 K2.out
  have HB2 := Lib.hid (HB1.out.trans (hb2.mono HB1.out.size))
  have HP22 := Lib.hid (HP2.out.stay hb2)
  replace kc2 := kpB (S := fun _ => True) hb2 _ _ trivial kc2
  have hmk := @run_makeMap Try.prog
  obtain ⟨x2, x3, x4, r1, r2, r3, hbx, l4, l5, l6⟩ := signs w2
  have HB4 := Lib.hid (HB2.out.trans (hbx.mono HB2.out.size))
  have HP4 := Lib.hid (HP22.out.stay hbx)
  have K4 := Lib.hid (blkBel hbx K2.out)
  obtain ⟨p0, p1, g0, g1⟩ := blk2 K4.out
  replace kc1 := kpB (S := fun _ => True) (hb2.trans (hbx.mono hb2.size)) _ _ trivial kc1
  have kc3 := kpB (S := fun _ => True) hbx _ _ trivial kc2
  have hsz := baSize hs.out
  have hs3 := HT.out.1
  have hs4 := HT.out.2
  have hcc : ¬ (9223372036854775807 < s.size + (⟨#[]⟩ : ByteArray).size) := by show ¬ (9223372036854775807 < s.size + 0); omega
  have hce : (s ++ ⟨#[]⟩ : ByteArray).size = s.size + 0 := by rw [ByteArray.size_append]; rfl
  have HCE := Lib.hid hce
  clear hce
  go_wp2_with fail
  refine (bracketed_c b 4 (by omega) HL.out.2 IB.out _ x4 HP4.out).mono ?_
  rintro e w5 ⟨s5, rfl, hb5, hs5⟩
  have HB5 := Lib.hid (HB4.out.trans (hb5.mono HB4.out.size))
  have hsz5 := baSize hs5.out
  have hcd : ¬ (9223372036854775807 < (s ++ ⟨#[]⟩ : ByteArray).size + s5.size) := by rw [HCE.out]; omega
  go_wp2
  go_ret
  exact RTx.mk HB5.out (by rw [HE.out, baApp, baApp, hs.out, hs5.out]; simp)
set_option maxHeartbeats 1600000 in
theorem etx_either (a b : Re) (hl : a.len + b.len ≤ 59) (iha : ∀ (w : World) (v : Value), PR w v a → Calls Try.prog 60 #[v] w (RTx w a.tx)) (ihb : ∀ (w : World) (v : Value), PR w v b → Calls Try.prog 60 #[v] w (RTx w b.tx)) (u : Value) (w : World) (h : PR w u (.either a b)) : Calls Try.prog 60 #[u] w (RTx w (Re.tx (.either a b))) := by
  have hlab : (a.flat ++ b.flat).length ≤ 59 := by rw [List.length_append]; exact hl
  have hl2 : a.flat.length + b.flat.length ≤ 59 := hl
  have hmm : (Re.either a b).flat.length = a.flat.length + b.flat.length + 1 := len_either a b
  have hta := tx_len a
  have htb := brk_len (a.lvl < 1) a.tx
  have htc := tx_len b
  have htd := brk_len (b.lvl < 2) b.tx
  have HT : Hid ((brk (a.lvl < 1) a.tx).length ≤ 400 ∧ (brk (b.lvl < 2) b.tx).length ≤ 400) := Lib.hid (by omega)
  have HE : Hid ((Re.either a b).tx = brk (a.lvl < 1) a.tx ++ [124] ++ brk (b.lvl < 2) b.tx) := Lib.hid rfl
  have ht := h.1
  have htl := tx_len (Re.either a b)
  obtain ⟨bb, off, cap, m, rfl, hm1, hm2, c0, c1⟩ := h.last
  replace c0 : w.cell? ⟨bb, off + m * 2, none⟩ = some (.int .i64 5) := c0
  replace c1 : w.cell? ⟨bb, off + m * 2 + 1, none⟩ = some (.int .i64 0) := c1
  have hm60 : m ≤ 60 := by omega
  have hI : IntKind.i64.wrap ((m + 1 : Nat) - 1 : Int) = (m : Int) := by rw [show (((m + 1 : Nat) : Int) - 1) = (m : Int) by omega]; exact IntWalk.i64_in _ (by omega)
  have hlt : (m : Int) < (m : Int) + 1 := by omega
  obtain ⟨W, hW⟩ : ∃ W, W = w.alloc (.cells #[.int .i64 5, .int .i64 0] 67) := ⟨_, rfl⟩
  have hBW : Below w.heap.size w W := by rw [hW]; exact (Below.refl _ _).alloc (Nat.le_refl _) _
  have KW : Hid (W.heap[w.heap.size]? = some (.cells #[.int .i64 5, .int .i64 0] 67 (0, 0))) := Lib.hid (by rw [hW]; exact blkNew _ _ rfl)
  have HH := Lib.hid (h.stay hBW)
  have HBW := Lib.hid hBW
  have HW := Lib.hid hW
  have HBD : Hid (Calls Try.prog 98 #[.int .i64 5] W (RI W fun n => n = ((Re.either a b).lvl : Int))) := Lib.hid (binding_c (Re.either a b) W)
  obtain ⟨q0, q1, f0, f1⟩ := blk2 KW.out
  have HA : Hid a.wf := Lib.hid ht.1
  have HB : Hid b.wf := Lib.hid ht.2
  have IA := Lib.hid iha; have IB := Lib.hid ihb
  have HOP := Lib.hid (operands2_c _ a b 5 0 W ht.1 ht.2 HH.out.2 (by decide) (by decide) hlab)
  have HL := Lib.hid (show a.len ≤ 60 ∧ b.len ≤ 60 by omega)
  have hlv : ((Re.either a b).lvl : Int) = ((1 : Nat) : Int) := rfl
  clear h hm1 hm2 hBW hW ht htl hmm hlab hl2 hta htb htc htd hl iha ihb
  rw [HW.out] at q0 q1 f0 f1
  go_enter Try.func60, Try.ntmps60
  go_wp2_with fail
  rw [← HW.out] at q0 q1 f0 f1 ⊢
  refine HBD.out.mono ?_
  rintro e w1 ⟨y, rfl, rfl, hy⟩
  obtain rfl := hy.out
  clear hy HBD
  rw [hlv]
  clear hlv
  go_wp2_with fail
  refine HOP.out.mono ?_
  rintro e w1 ⟨vo, rfl, hb1, ho⟩
  have K1 := Lib.hid (blkBel hb1 KW.out)
  have HB1 := Lib.hid (HBW.out.trans (hb1.mono HBW.out.size))
  obtain ⟨g, cg, ad1, cap1, ad2, cap2, rfl, _, _, kc1, kc2, hP1, hP2⟩ := ho.out.at
  have HP1 : Hid (PR w1 _ a) := Lib.hid (PR.of HA.out hP1 hb1); have HP2 : Hid (PR w1 _ b) := Lib.hid (PR.of HB.out hP2 hb1); clear hP1 hP2
  clear ho HOP q0 q1 f0 f1 KW hb1
  go_wp2_with fail
  refine (bracketed_c a 1 (by omega) HL.out.1 IA.out _ w1 HP1.out).mono ?_
  rintro e w2 ⟨s, rfl, hb2, hs⟩
  have K2 := Lib.hid (blkBel hb2 K1.out)
  obtain ⟨q0, q1, f0, f1⟩ := blk2 K2.out
  have HB2 := Lib.hid (HB1.out.trans (hb2.mono HB1.out.size))
  have HP22 := Lib.hid (HP2.out.stay hb2)
  replace kc2 := kpB (S := fun _ => True) hb2 _ _ trivial kc2
  have hmk := @run_makeMap Try.prog
  obtain ⟨x2, x3, x4, r1, r2, r3, hbx, l4, l5, l6⟩ := signs w2
  have HB4 := Lib.hid (HB2.out.trans (hbx.mono HB2.out.size))
  have HP4 := Lib.hid (HP22.out.stay hbx)
  have K4 := Lib.hid (blkBel hbx K2.out)
  obtain ⟨p0, p1, g0, g1⟩ := blk2 K4.out
  replace kc1 := kpB (S := fun _ => True) (hb2.trans (hbx.mono hb2.size)) _ _ trivial kc1
  have kc3 := kpB (S := fun _ => True) hbx _ _ trivial kc2
  have hsz := baSize hs.out
  have hs3 := HT.out.1
  have hs4 := HT.out.2
  have hcc : ¬ (9223372036854775807 < s.size + (⟨#[124]⟩ : ByteArray).size) := by show ¬ (9223372036854775807 < s.size + 1); omega
  have hce : (s ++ ⟨#[124]⟩ : ByteArray).size = s.size + 1 := by rw [ByteArray.size_append]; rfl
  have HCE := Lib.hid hce
  clear hce
  go_wp2_with fail
  refine (bracketed_c b 2 (by omega) HL.out.2 IB.out _ x4 HP4.out).mono ?_
  rintro e w5 ⟨s5, rfl, hb5, hs5⟩
  have HB5 := Lib.hid (HB4.out.trans (hb5.mono HB4.out.size))
  have hsz5 := baSize hs5.out
  have hcd : ¬ (9223372036854775807 < (s ++ ⟨#[124]⟩ : ByteArray).size + s5.size) := by rw [HCE.out]; omega
  go_wp2
  go_ret
  exact RTx.mk HB5.out (by rw [HE.out, baApp, baApp, hs.out, hs5.out])
set_option maxHeartbeats 1600000 in
theorem etx_both (a b : Re) (hl : a.len + b.len ≤ 59) (iha : ∀ (w : World) (v : Value), PR w v a → Calls Try.prog 60 #[v] w (RTx w a.tx)) (ihb : ∀ (w : World) (v : Value), PR w v b → Calls Try.prog 60 #[v] w (RTx w b.tx)) (u : Value) (w : World) (h : PR w u (.both a b)) : Calls Try.prog 60 #[u] w (RTx w (Re.tx (.both a b))) := by
  have hlab : (a.flat ++ b.flat).length ≤ 59 := by rw [List.length_append]; exact hl
  have hl2 : a.flat.length + b.flat.length ≤ 59 := hl
  have hmm : (Re.both a b).flat.length = a.flat.length + b.flat.length + 1 := len_both a b
  have hta := tx_len a
  have htb := brk_len (a.lvl < 2) a.tx
  have htc := tx_len b
  have htd := brk_len (b.lvl < 3) b.tx
  have HT : Hid ((brk (a.lvl < 2) a.tx).length ≤ 400 ∧ (brk (b.lvl < 3) b.tx).length ≤ 400) := Lib.hid (by omega)
  have HE : Hid ((Re.both a b).tx = brk (a.lvl < 2) a.tx ++ [38] ++ brk (b.lvl < 3) b.tx) := Lib.hid rfl
  have ht := h.1
  have htl := tx_len (Re.both a b)
  obtain ⟨bb, off, cap, m, rfl, hm1, hm2, c0, c1⟩ := h.last
  replace c0 : w.cell? ⟨bb, off + m * 2, none⟩ = some (.int .i64 6) := c0
  replace c1 : w.cell? ⟨bb, off + m * 2 + 1, none⟩ = some (.int .i64 0) := c1
  have hm60 : m ≤ 60 := by omega
  have hI : IntKind.i64.wrap ((m + 1 : Nat) - 1 : Int) = (m : Int) := by rw [show (((m + 1 : Nat) : Int) - 1) = (m : Int) by omega]; exact IntWalk.i64_in _ (by omega)
  have hlt : (m : Int) < (m : Int) + 1 := by omega
  obtain ⟨W, hW⟩ : ∃ W, W = w.alloc (.cells #[.int .i64 6, .int .i64 0] 67) := ⟨_, rfl⟩
  have hBW : Below w.heap.size w W := by rw [hW]; exact (Below.refl _ _).alloc (Nat.le_refl _) _
  have KW : Hid (W.heap[w.heap.size]? = some (.cells #[.int .i64 6, .int .i64 0] 67 (0, 0))) := Lib.hid (by rw [hW]; exact blkNew _ _ rfl)
  have HH := Lib.hid (h.stay hBW)
  have HBW := Lib.hid hBW
  have HW := Lib.hid hW
  have HBD : Hid (Calls Try.prog 98 #[.int .i64 6] W (RI W fun n => n = ((Re.both a b).lvl : Int))) := Lib.hid (binding_c (Re.both a b) W)
  obtain ⟨q0, q1, f0, f1⟩ := blk2 KW.out
  have HA : Hid a.wf := Lib.hid ht.1
  have HB : Hid b.wf := Lib.hid ht.2
  have IA := Lib.hid iha; have IB := Lib.hid ihb
  have HOP := Lib.hid (operands2_c _ a b 6 0 W ht.1 ht.2 HH.out.2 (by decide) (by decide) hlab)
  have HL := Lib.hid (show a.len ≤ 60 ∧ b.len ≤ 60 by omega)
  have hlv : ((Re.both a b).lvl : Int) = ((2 : Nat) : Int) := rfl
  clear h hm1 hm2 hBW hW ht htl hmm hlab hl2 hta htb htc htd hl iha ihb
  rw [HW.out] at q0 q1 f0 f1
  go_enter Try.func60, Try.ntmps60
  go_wp2_with fail
  rw [← HW.out] at q0 q1 f0 f1 ⊢
  refine HBD.out.mono ?_
  rintro e w1 ⟨y, rfl, rfl, hy⟩
  obtain rfl := hy.out
  clear hy HBD
  rw [hlv]
  clear hlv
  go_wp2_with fail
  refine HOP.out.mono ?_
  rintro e w1 ⟨vo, rfl, hb1, ho⟩
  have K1 := Lib.hid (blkBel hb1 KW.out)
  have HB1 := Lib.hid (HBW.out.trans (hb1.mono HBW.out.size))
  obtain ⟨g, cg, ad1, cap1, ad2, cap2, rfl, _, _, kc1, kc2, hP1, hP2⟩ := ho.out.at
  have HP1 : Hid (PR w1 _ a) := Lib.hid (PR.of HA.out hP1 hb1); have HP2 : Hid (PR w1 _ b) := Lib.hid (PR.of HB.out hP2 hb1); clear hP1 hP2
  clear ho HOP q0 q1 f0 f1 KW hb1
  go_wp2_with fail
  refine (bracketed_c a 2 (by omega) HL.out.1 IA.out _ w1 HP1.out).mono ?_
  rintro e w2 ⟨s, rfl, hb2, hs⟩
  have K2 := Lib.hid (blkBel hb2 K1.out)
  obtain ⟨q0, q1, f0, f1⟩ := blk2 K2.out
  have HB2 := Lib.hid (HB1.out.trans (hb2.mono HB1.out.size))
  have HP22 := Lib.hid (HP2.out.stay hb2)
  replace kc2 := kpB (S := fun _ => True) hb2 _ _ trivial kc2
  have hmk := @run_makeMap Try.prog
  obtain ⟨x2, x3, x4, r1, r2, r3, hbx, l4, l5, l6⟩ := signs w2
  have HB4 := Lib.hid (HB2.out.trans (hbx.mono HB2.out.size))
  have HP4 := Lib.hid (HP22.out.stay hbx)
  have K4 := Lib.hid (blkBel hbx K2.out)
  obtain ⟨p0, p1, g0, g1⟩ := blk2 K4.out
  replace kc1 := kpB (S := fun _ => True) (hb2.trans (hbx.mono hb2.size)) _ _ trivial kc1
  have kc3 := kpB (S := fun _ => True) hbx _ _ trivial kc2
  have hsz := baSize hs.out
  have hs3 := HT.out.1
  have hs4 := HT.out.2
  have hcc : ¬ (9223372036854775807 < s.size + (⟨#[38]⟩ : ByteArray).size) := by show ¬ (9223372036854775807 < s.size + 1); omega
  have hce : (s ++ ⟨#[38]⟩ : ByteArray).size = s.size + 1 := by rw [ByteArray.size_append]; rfl
  have HCE := Lib.hid hce
  clear hce
  go_wp2_with fail
  refine (bracketed_c b 3 (by omega) HL.out.2 IB.out _ x4 HP4.out).mono ?_
  rintro e w5 ⟨s5, rfl, hb5, hs5⟩
  have HB5 := Lib.hid (HB4.out.trans (hb5.mono HB4.out.size))
  have hsz5 := baSize hs5.out
  have hcd : ¬ (9223372036854775807 < (s ++ ⟨#[38]⟩ : ByteArray).size + s5.size) := by rw [HCE.out]; omega
  go_wp2
  go_ret
  exact RTx.mk HB5.out (by rw [HE.out, baApp, baApp, hs.out, hs5.out])
theorem exprText_c (t : Re) : t.wf → t.len ≤ 60 → ∀ (w : World) (v : Value), PR w v t → Calls Try.prog 60 #[v] w (RTx w t.tx) := by
  induction t with
  | none => exact fun _ _ w v h => etx_none v w h
  | empty => exact fun _ _ w v h => etx_empty v w h
  | letter d => exact fun _ _ w v h => etx_letter d v w h
  | join a b iha ihb => exact fun ht hl w v h => etx_join a b (by rw [len_join] at hl; omega) (iha ht.1 (by rw [len_join] at hl; omega)) (ihb ht.2 (by rw [len_join] at hl; omega)) v w h
  | either a b iha ihb => exact fun ht hl w v h => etx_either a b (by rw [len_either] at hl; omega) (iha ht.1 (by rw [len_either] at hl; omega)) (ihb ht.2 (by rw [len_either] at hl; omega)) v w h
  | both a b iha ihb => exact fun ht hl w v h => etx_both a b (by rw [len_both] at hl; omega) (iha ht.1 (by rw [len_both] at hl; omega)) (ihb ht.2 (by rw [len_both] at hl; omega)) v w h
  | not a iha => exact fun ht hl w v h => etx_not a (by rw [len_not] at hl; omega) (iha ht (by rw [len_not] at hl; omega)) v w h
  | star a iha => exact fun ht hl w v h => etx_star a (by rw [len_star] at hl; omega) (iha ht (by rw [len_star] at hl; omega)) v w h
theorem ExprText_c (t : Re) (hl : t.len ≤ 60) (v : Value) (w : World) (h : PR w v t) : Calls Try.prog 24 #[v] w (RTx w t.tx) := by
  obtain ⟨a, cap, rfl, hn⟩ := h.shape
  have hok : ExprOk t.flat := (exprOk_iff _).2 ⟨t, h.1, rfl, hl⟩
  have H := Lib.hid h; have HT := Lib.hid hl; have HO := Lib.hid hok
  clear h hok hl
  go_enter Try.func24, Try.ntmps24
  go_wp2_with fail
  refine (ExprValid_c _ t.flat w H.out.2).mono ?_
  rintro x w1 ⟨b1, rfl, hb1, hv⟩
  obtain rfl : b1 = true := hv.out.2 HO.out
  have H1 := Lib.hid (H.out.stay hb1)
  have HB1 := Lib.hid hb1; clear hb1 hv
  go_wp2_with fail
  refine (exprText_c t H1.out.1 HT.out w1 _ H1.out).mono ?_
  rintro x w2 ⟨s, rfl, hb2, hs⟩
  go_wp2
  go_ret
  exact RTx.mk (HB1.out.trans (hb2.mono HB1.out.size)) hs.out
end Go.Proofs.Ytbcjhiponbfbnaa
