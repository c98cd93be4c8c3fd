/- Expressions turned round: the program's TurnExpr. -/
import Derived.Deep.RegionLaw
import Derived.Deep.RegionHeld3
import Derived.Test.YtnjddneelkdmoaaEdg
import Derived.Test.YtnjddneelkdmoaaSlc
set_option linter.unusedSimpArgs false
set_option linter.unusedVariables false
set_option linter.unusedSectionVars false
namespace Go.Proofs.Ytnjddneelkdmoaa
open Go.RowKit
set_option maxRecDepth 100000
variable {S T : Nat → Prop}
/-- The operands of every join exchanged. -/
def Re.trn : Re → Re
  | .none => .none
  | .empty => .empty
  | .letter c => .letter c
  | .join a b => .join b.trn a.trn
  | .either a b => .either a.trn b.trn
  | .both a b => .both a.trn b.trn
  | .not a => .not a.trn
  | .star a => .star a.trn
theorem trn_len (t : Re) : t.trn.flat.length = t.flat.length := by
  induction t with
  | none => rfl
  | empty => rfl
  | letter c => rfl
  | join a b iha ihb => simp only [Re.trn, Re.flat, List.length_append, iha, ihb]; omega
  | either a b iha ihb => simp only [Re.trn, Re.flat, List.length_append, iha, ihb]
  | both a b iha ihb => simp only [Re.trn, Re.flat, List.length_append, iha, ihb]
  | not a iha => simp only [Re.trn, Re.flat, List.length_append, iha]
  | star a iha => simp only [Re.trn, Re.flat, List.length_append, iha]
theorem trn_wf {t : Re} : t.wf → t.trn.wf := by
  induction t with
  | none => exact id
  | empty => exact id
  | letter c => exact id
  | join a b iha ihb => exact fun h => ⟨ihb h.2, iha h.1⟩
  | either a b iha ihb => exact fun h => ⟨iha h.1, ihb h.2⟩
  | both a b iha ihb => exact fun h => ⟨iha h.1, ihb h.2⟩
  | not a iha => exact fun h => iha h
  | star a iha => exact fun h => iha h
theorem trn_nul (t : Re) : t.trn.nul = t.nul := by
  induction t with
  | none => rfl
  | empty => rfl
  | letter c => rfl
  | join a b iha ihb => simp only [Re.trn, Re.nul, iha, ihb]; exact Bool.and_comm _ _
  | either a b iha ihb => simp only [Re.trn, Re.nul, iha, ihb]
  | both a b iha ihb => simp only [Re.trn, Re.nul, iha, ihb]
  | not a iha => simp only [Re.trn, Re.nul, iha]
  | star a iha => rfl
theorem trn_plain {t : Re} : plainE t.flat → plainE t.trn.flat := by
  induction t with
  | none => exact id
  | empty => exact id
  | letter c => exact id
  | join a b iha ihb =>
    intro h
    have ha := iha fun q hq => h q (List.mem_append_left _ (List.mem_append_left _ hq))
    have hb := ihb fun q hq => h q (List.mem_append_left _ (List.mem_append_right _ hq))
    intro q hq
    rcases List.mem_append.1 hq with hq | hq
    · rcases List.mem_append.1 hq with hq | hq
      · exact hb q hq
      · exact ha q hq
    · rw [List.mem_singleton] at hq; subst hq; exact ⟨by decide, by decide⟩
  | either a b iha ihb =>
    intro h
    have ha := iha fun q hq => h q (List.mem_append_left _ (List.mem_append_left _ hq))
    have hb := ihb fun q hq => h q (List.mem_append_left _ (List.mem_append_right _ hq))
    intro q hq
    rcases List.mem_append.1 hq with hq | hq
    · rcases List.mem_append.1 hq with hq | hq
      · exact ha q hq
      · exact hb q hq
    · rw [List.mem_singleton] at hq; subst hq; exact ⟨by decide, by decide⟩
  | both a b iha ihb => intro h; exact absurd rfl (h (6, 0) (List.mem_append_right _ (List.mem_singleton.2 rfl))).1
  | not a iha => intro h; exact absurd rfl (h (7, 0) (List.mem_append_right _ (List.mem_singleton.2 rfl))).2
  | star a iha =>
    intro h
    have ha := iha fun q hq => h q (List.mem_append_left _ hq)
    intro q hq
    rcases List.mem_append.1 hq with hq | hq
    · exact ha q hq
    · rw [List.mem_singleton] at hq; subst hq; exact ⟨by decide, by decide⟩
theorem trn_fps (t : Re) : ∀ f g : Int, (t.trn.fps f).length = (t.lps g).length := by
  induction t with
  | none => intro f g; rfl
  | empty => intro f g; rfl
  | letter c => intro f g; rfl
  | join a b iha ihb =>
    intro f g
    show (if b.trn.nul then b.trn.fps f ++ a.trn.fps (f + b.trn.flat.length) else b.trn.fps f).length = (if b.nul then a.lps g ++ b.lps (g + a.flat.length) else b.lps (g + a.flat.length)).length
    rw [trn_nul]
    split
    · rw [List.length_append, List.length_append, ihb _ (g + a.flat.length), iha _ g]; omega
    · exact ihb _ _
  | either a b iha ihb =>
    intro f g
    show (a.trn.fps f ++ b.trn.fps _).length = (a.lps g ++ b.lps _).length
    rw [List.length_append, List.length_append, iha _ g, ihb _ (g + a.flat.length)]
  | both a b iha ihb => intro f g; exact iha _ _
  | not a iha => intro f g; exact iha _ _
  | star a iha => intro f g; exact iha _ _
/-- A list of expressions in a block that is written. -/
def TPb (g : Nat) (x y : Value) (w : World) : Prop := ∃ cur, w.heap[g]? = some (.cells cur 23 (0, 0)) ∧ cur[0]? = some x ∧ cur[1]? = some y
theorem TPb.stay {g : Nat} {x y : Value} {w w' : World} (h : TPb g x y w) (k : Below w.heap.size w w') : TPb g x y w' := let ⟨c, a, b, d⟩ := h; ⟨c, blkBel k a, b, d⟩
theorem TPb.c0 {g : Nat} {x y : Value} {w : World} (h : TPb g x y w) : w.cell? ⟨g, 0, none⟩ = some x := let ⟨c, a, b, d⟩ := h; by rw [cell_of_row w g 0 _ _ _ a]; exact b
theorem TPb.c1 {g : Nat} {x y : Value} {w : World} (h : TPb g x y w) : w.cell? ⟨g, 1, none⟩ = some y := let ⟨c, a, b, d⟩ := h; by rw [cell_of_row w g 1 _ _ _ a]; exact d
theorem TPb.fz {g : Nat} {x y : Value} {w : World} (h : TPb g x y w) (o : Nat) : w.frozen? ⟨g, o, none⟩ = false := let ⟨c, a, b, d⟩ := h; blkFz a o
theorem TPb.set0 {g : Nat} {x y : Value} {w : World} (h : TPb g x y w) (v : Value) : TPb g v y (w.setCell ⟨g, 0, none⟩ v) := by
  obtain ⟨c, a, b, d⟩ := h
  refine ⟨_, heap_set a 0 v, ?_, ?_⟩
  · have := (Array.getElem?_eq_some_iff.1 b).1
    rw [Array.getElem?_setIfInBounds, if_pos rfl, if_pos this]
  · rw [Array.getElem?_setIfInBounds, if_neg (by omega)]; exact d
theorem TPb.set1 {g : Nat} {x y : Value} {w : World} (h : TPb g x y w) (v : Value) : TPb g x v (w.setCell ⟨g, 1, none⟩ v) := by
  obtain ⟨c, a, b, d⟩ := h
  refine ⟨_, heap_set a 1 v, ?_, ?_⟩
  · rw [Array.getElem?_setIfInBounds, if_neg (by omega)]; exact b
  · have := (Array.getElem?_eq_some_iff.1 d).1
    rw [Array.getElem?_setIfInBounds, if_pos rfl, if_pos this]
theorem TPb.ne {g : Nat} {x y : Value} {w : World} (h : TPb g x y w) {base : Nat} {v : Value} {xs : List (Int × Int)} (ho : OwnP w base v xs) (hne : xs ≠ []) : Pairs (· ≠ g) w v xs := by
  obtain ⟨c, a, b, d⟩ := h
  have h1 := ownNe ho a (by decide)
  rcases hv : v.ownBlock with _ | q
  · obtain ⟨_, ⟨rfl, h2⟩ | ⟨q, _, _, rfl, _⟩⟩ := ho
    · exact absurd (List.eq_nil_of_length_eq_zero h2) hne
    · cases hv
  · have := ownF ho (f := q) (fun b hb => by rw [hv] at hb; exact (Option.some.inj hb))
    refine this.fl.mono fun b e => ?_
    subst e
    intro e
    subst e
    exact h1 hv
theorem Opd2.tp {base : Nat} {e f : List (Int × Int)} {v : Value} {w : World} (h : Opd2 S base e f v w) : ∃ g c ad cap ad2 cap2, v = .slice (some ⟨g, 0, none⟩) 2 c ∧ base ≤ g ∧ g < w.heap.size ∧ TPb g (.slice ad e.length cap) (.slice ad2 f.length cap2) w ∧ Pairs S w (.slice ad e.length cap) e ∧ Pairs S w (.slice ad2 f.length cap2) f := by
  obtain ⟨x, y, h, hx, hy⟩ := h
  obtain ⟨ad, cap, rfl, _⟩ := hx.shape
  obtain ⟨ad2, cap2, rfl, _⟩ := hy.shape
  rcases h.2 with ⟨h1, h2⟩ | ⟨g, c, cur, rfl, hb, hh, hc, hm, hs, ht⟩
  · omega
  · refine ⟨g, c, ad, cap, ad2, cap2, rfl, hb, (Array.getElem?_eq_some_iff.1 hh).1, ⟨cur, hh, ?_, ?_⟩, hx, hy⟩
    · have := congrArg (·[0]?) ht; simpa using this
    · have := congrArg (·[1]?) ht; simpa using this
/-- A block with one expression. -/
def TPu (g : Nat) (x : Value) (w : World) : Prop := ∃ cur, w.heap[g]? = some (.cells cur 23 (0, 0)) ∧ cur[0]? = some x
theorem TPu.stay {g : Nat} {x : Value} {w w' : World} (h : TPu g x w) (k : Below w.heap.size w w') : TPu g x w' := let ⟨c, a, b⟩ := h; ⟨c, blkBel k a, b⟩
theorem TPu.c0 {g : Nat} {x : Value} {w : World} (h : TPu g x w) : w.cell? ⟨g, 0, none⟩ = some x := let ⟨c, a, b⟩ := h; by rw [cell_of_row w g 0 _ _ _ a]; exact b
theorem TPu.fz {g : Nat} {x : Value} {w : World} (h : TPu g x w) (o : Nat) : w.frozen? ⟨g, o, none⟩ = false := let ⟨c, a, b⟩ := h; blkFz a o
theorem TPu.set0 {g : Nat} {x : Value} {w : World} (h : TPu g x w) (v : Value) : TPu g v (w.setCell ⟨g, 0, none⟩ v) := by
  obtain ⟨c, a, b⟩ := h
  refine ⟨_, heap_set a 0 v, ?_⟩
  have := (Array.getElem?_eq_some_iff.1 b).1
  rw [Array.getElem?_setIfInBounds, if_pos rfl, if_pos this]
theorem Opd1.tp {base : Nat} {e : List (Int × Int)} {v : Value} {w : World} (h : Opd1 S base e v w) : ∃ g c ad cap, v = .slice (some ⟨g, 0, none⟩) 1 c ∧ base ≤ g ∧ g < w.heap.size ∧ TPu g (.slice ad e.length cap) w ∧ Pairs S w (.slice ad e.length cap) e := by
  obtain ⟨x, h, hx⟩ := h
  obtain ⟨ad, cap, rfl, _⟩ := hx.shape
  rcases h.2 with ⟨h1, h2⟩ | ⟨g, c, cur, rfl, hb, hh, hc, hm, hs, ht⟩
  · omega
  · refine ⟨g, c, ad, cap, rfl, hb, (Array.getElem?_eq_some_iff.1 hh).1, ⟨cur, hh, ?_⟩, hx⟩
    have := congrArg (·[0]?) ht; simpa using this
theorem TPu.ne {g : Nat} {x : Value} {w : World} (h : TPu g x w) {base : Nat} {v : Value} {xs : List (Int × Int)} (ho : OwnP w base v xs) (hne : xs ≠ []) : Pairs (· ≠ g) w v xs := by
  obtain ⟨c, a, b⟩ := h
  have h1 := ownNe ho a (by decide)
  rcases hv : v.ownBlock with _ | q
  · obtain ⟨_, ⟨rfl, h2⟩ | ⟨q, _, _, rfl, _⟩⟩ := ho
    · exact absurd (List.eq_nil_of_length_eq_zero h2) hne
    · cases hv
  · have := ownF ho (f := q) (fun b hb => by rw [hv] at hb; exact (Option.some.inj hb))
    refine this.fl.mono fun b e => ?_
    subst e
    intro e
    subst e
    exact h1 hv
theorem nest0 {w : World} : Nest (fun w v x => Pairs (fun _ => True) w v x) (fun _ => True) w (.slice none 0 0) ([] : List (List (Int × Int))) :=
  ⟨[], ⟨none, 0, rfl, ⟨by simp [maxLen], Nat.le_refl _, fun _ => rfl⟩, fun i hi => absurd hi (Nat.not_lt_zero _)⟩, rfl, fun i hi => absurd hi (Nat.not_lt_zero _)⟩
theorem nest1 {w : World} {g c : Nat} {x : Value} {xs : List (Int × Int)} (h : TPu g x w) (hx : Pairs (fun _ => True) w x xs) (hc : 1 ≤ c) : Nest (fun w v x => Pairs (fun _ => True) w v x) (fun _ => True) w (.slice (some ⟨g, 0, none⟩) 1 c) [xs] := by
  refine ⟨[x], ⟨_, c, rfl, ⟨by simp [maxLen], hc, nofun⟩, fun i hi => ⟨g, 0, rfl, trivial, ?_⟩⟩, rfl, fun i hi => ?_⟩
  · simp at hi; subst hi; exact h.c0
  · simp at hi; subst hi; exact hx
theorem nest2 {w : World} {g c : Nat} {x y : Value} {xs ys : List (Int × Int)} (h : TPb g x y w) (hx : Pairs (fun _ => True) w x xs) (hy : Pairs (fun _ => True) w y ys) (hc : 2 ≤ c) : Nest (fun w v x => Pairs (fun _ => True) w v x) (fun _ => True) w (.slice (some ⟨g, 0, none⟩) 2 c) [xs, ys] := by
  refine ⟨[x, y], ⟨_, c, rfl, ⟨by simp [maxLen], hc, nofun⟩, fun i hi => ⟨g, 0, rfl, trivial, ?_⟩⟩, rfl, fun i hi => ?_⟩
  · simp at hi; rcases (by omega : i = 0 ∨ i = 1) with rfl | rfl
    · exact h.c0
    · exact h.c1
  · simp at hi; rcases (by omega : i = 0 ∨ i = 1) with rfl | rfl
    · exact hx
    · exact hy
end Go.Proofs.Ytnjddneelkdmoaa
