/- Tables of expressions. -/
import Derived.Test.YtbcjhiponbfbnaaEop
import Derived.Test.YtbcjhiponbfbnaaApf
import Derived.Test.YtbcjhiponbfbnaaGF
set_option linter.unusedSimpArgs false
set_option linter.unusedVariables false
set_option linter.unusedSectionVars false
namespace Go.Proofs.Ytbcjhiponbfbnaa
open Go.RowKit
set_option maxRecDepth 100000
variable {S T : Nat → Prop}
theorem PT.gw {w w' : World} {row : Option Nat} {b : Nat} (h : PT w b) (hg : w.grownBy w' row) (hn : ∀ c, row = some c → ¬ PT w c) : PT w' b := by
  obtain ⟨cs, fz, e⟩ := h
  exact ⟨cs, fz, blkGrow hg e fun e2 => hn b e2.symm ⟨cs, fz, e⟩⟩
theorem PL0.gw {w w' : World} {row : Option Nat} {v : Value} {xs : List (Int × Int)} (h : PL0 w v xs) (hg : w.grownBy w' row) (hn : ∀ c, row = some c → ¬ PT w c) : PL0 w' v xs :=
  (Pairs.stay h ((kpG hg).mono fun b hb e => hn b e.symm hb)).mono fun _ hb => PT.gw hb hg hn
theorem PR.gw {w w' : World} {row : Option Nat} {v : Value} {t : Re} (h : PR w v t) (hg : w.grownBy w' row) (hn : ∀ c, row = some c → ¬ PT w c) : PR w' v t := ⟨h.1, h.2.gw hg hn⟩
/-- A row of expressions of the call's own. -/
def EvR (w : World) (base : Nat) (v : Value) (us : List Re) : Prop := ∃ cs : List Value, w.ownsRow base 23 1 v us.length cs ∧ ∀ i (h : i < us.length), PR w (cs.getD i undef) us[i]
theorem EvR.stay {w w' : World} {base : Nat} {v : Value} {us : List Re} (h : EvR w base v us) (k : Below w.heap.size w w') : EvR w' base v us := let ⟨cs, a, b⟩ := h; ⟨cs, ownStay a k, fun i hi => (b i hi).stay k⟩
theorem EvR.grown {w w' : World} {base : Nat} {v : Value} {us : List Re} {row : Option Nat} (h : EvR w base v us) (hg : w.grownBy w' row) (hn : ∀ c, row = some c → ¬ PT w c) (hne : ∀ c, v.ownBlock = some c → row ≠ some c) : EvR w' base v us := by
  obtain ⟨cs, a, b⟩ := h
  refine ⟨cs, World.ownsRow.kept a hg ?_, fun i hi => (b i hi).gw hg hn⟩
  rcases hv : v.ownBlock with _ | k
  · exact .inl rfl
  · exact .inr (fun e => hne k hv e.symm)
theorem EvR.nil (w : World) (base : Nat) : EvR w base (.slice none 0 0) [] := ⟨[], World.ownsRow_nil _ _ _ _, fun i hi => absurd hi (Nat.not_lt_zero _)⟩
theorem EvR.sl {w : World} {base : Nat} {v : Value} {us : List Re} (h : EvR w base v us) : ∃ a cap, v = .slice a us.length cap := by
  obtain ⟨cs, a, _⟩ := h
  obtain ⟨ad, cp, e, _⟩ := (ownFl a).fl
  exact ⟨ad, cp, e⟩
theorem EvR.at {w : World} {base : Nat} {a : Option Addr} {n cap : Nat} {us : List Re} (h : EvR w base (.slice a n cap) us) {k : Nat} (hk : k < us.length) : ∃ b off ad cp, a = some ⟨b, off, none⟩ ∧ w.cell? ⟨b, off + k, none⟩ = some (.slice ad us[k].flat.length cp) ∧ PR w (.slice ad us[k].flat.length cp) us[k] := by
  obtain ⟨cs, o, h2⟩ := h
  have hl : cs.length = us.length := by have := o.1; omega
  obtain ⟨b, off, e, hc⟩ := (ownFl o).fl.at (i := k) (by omega)
  have hp := h2 k hk
  rw [List.getD_eq_getElem?_getD, List.getElem?_eq_getElem (by omega)] at hp
  obtain ⟨ad, cp, e2, _⟩ := PR.shape hp
  refine ⟨b, off, ad, cp, e, ?_, ?_⟩
  · rw [hc]; exact congrArg some e2
  · rw [← e2]; exact hp
theorem rowNoPTe {w : World} {base sz n : Nat} {v : Value} {cs : List Value} (h : w.ownsRow base 23 sz v n cs) : ∀ c, v.ownBlock = some c → ¬ PT w c := by
  rintro c hc ⟨cs', fz, e⟩
  rcases h.2 with ⟨rfl, _⟩ | ⟨g, cp, cur, rfl, _, hh, _⟩
  · cases hc
  · cases hc
    rw [hh] at e
    injection e with e
    injection e with _ e2 _
    exact absurd e2 (by decide)
/-- One expression more. -/
theorem EvR.app {w w' : World} {base n : Nat} {v v' : Value} {us : List Re} {u : Re} {x : Value} (h : EvR w base v us) (hx : PR w x u) (hg : w.grownBy w' v.ownBlock) (hn : n = us.length) {cs : List Value}
    (ho : w.ownsRow base 23 1 v us.length cs) (hcs : ∀ i (h : i < us.length), PR w (cs.getD i undef) us[i]) (ho' : w'.ownsRow base 23 1 v' (n + 1) (cs ++ [x])) : EvR w' base v' (us ++ [u]) := by
  subst hn
  have hnp := rowNoPTe ho
  have hl : cs.length = us.length := by have := ho.1; omega
  refine ⟨cs ++ [x], by rw [List.length_append]; exact ho', fun i hi => ?_⟩
  rw [List.length_append, List.length_singleton] at hi
  by_cases hiu : i < us.length
  · have h1 := (hcs i hiu).gw hg hnp
    rw [List.getD_eq_getElem?_getD, List.getElem?_append_left (by omega), ← List.getD_eq_getElem?_getD, List.getElem_append_left hiu]
    exact h1
  · have hi2 : i = us.length := by omega
    subst hi2
    have h1 := hx.gw hg hnp
    rw [List.getD_eq_getElem?_getD, List.getElem?_append_right (by omega), List.getElem_append_right (by omega)]
    simp [hl]
    exact h1
theorem EvR.base {w : World} {base base' : Nat} {v : Value} {us : List Re} (h : EvR w base v us) (hb : base' ≤ base) : EvR w base' v us := let ⟨cs, a, b⟩ := h; ⟨cs, ownBase a hb, b⟩
/-- A row of another type was appended to. -/
theorem EvR.growE {w w' : World} {base base' sz n : Nat} {v u : Value} {us : List Re} {e : TypeId} {xs : List Value} (h : EvR w base v us) (hu : w.ownsRow base' e sz u n xs) (hg : w.grownBy w' u.ownBlock) (h1 : 23 ≠ e) (h2 : 67 ≠ e) : EvR w' base v us := by
  obtain ⟨cs, a, b⟩ := h
  refine ⟨cs, World.ownsRow.kept a hg (ownOr a hu (ownNe2 a hu h1)), fun i hi => (b i hi).gw hg ?_⟩
  rintro c hc ⟨cs', fz, e'⟩
  exact ownNe hu e' h2 hc
/-- A table of expressions of the call's own, its rows in blocks of their own. -/
structure EtR (w : World) (base : Nat) (v : Value) (rss : List (List Re)) (cs : List Value) : Prop where
  own : w.ownsRow base 84 1 v rss.length cs
  rows : ∀ i (h : i < rss.length), EvR w base (cs.getD i undef) rss[i]
theorem EtR.stay {w w' : World} {base : Nat} {v : Value} {rss : List (List Re)} {cs : List Value} (h : EtR w base v rss cs) (k : Below w.heap.size w w') : EtR w' base v rss cs := ⟨ownStay h.own k, fun i hi => (h.rows i hi).stay k⟩
theorem EtR.base {w : World} {base base' : Nat} {v : Value} {rss : List (List Re)} {cs : List Value} (h : EtR w base v rss cs) (hb : base' ≤ base) : EtR w base' v rss cs := ⟨ownBase h.own hb, fun i hi => (h.rows i hi).base hb⟩
theorem EtR.len {w : World} {base : Nat} {v : Value} {rss : List (List Re)} {cs : List Value} (h : EtR w base v rss cs) : cs.length = rss.length := by have := h.own.1; omega
/-- One row more. -/
theorem EtR.add {w w' : World} {base : Nat} {v v' u : Value} {rss : List (List Re)} {us : List Re} {cs : List Value} (h : EtR w base v rss cs) (hu : EvR w base u us) (hg : w.grownBy w' v.ownBlock) (ho : w'.ownsRow base 84 1 v' (rss.length + 1) (cs ++ [u])) : EtR w' base v' (rss ++ [us]) (cs ++ [u]) := by
  have hl := h.len
  refine ⟨by rw [List.length_append]; exact ho, fun i hi => ?_⟩
  rw [List.length_append, List.length_singleton] at hi
  by_cases hiu : i < rss.length
  · have h1 := (h.rows i hiu).growE h.own hg (by decide) (by decide)
    rw [List.getD_eq_getElem?_getD, List.getElem?_append_left (by omega), ← List.getD_eq_getElem?_getD, List.getElem_append_left hiu]
    exact h1
  · have hi2 : i = rss.length := by omega
    subst hi2
    have h1 := hu.growE h.own hg (by decide) (by decide)
    rw [List.getD_eq_getElem?_getD, List.getElem?_append_right (by omega), List.getElem_append_right (by omega)]
    simp [hl]
    exact h1
/-- An entry is read. -/
theorem EtR.at {w : World} {base : Nat} {a : Option Addr} {n cap : Nat} {rss : List (List Re)} {cs : List Value} (h : EtR w base (.slice a n cap) rss cs) {i j : Nat} (hi : i < rss.length) (hj : j < rss[i].length) :
    ∃ g a1 n1 c1 b1 o1 ad cp, a = some ⟨g, 0, none⟩ ∧ w.cell? ⟨g, i, none⟩ = some (.slice a1 n1 c1) ∧ n1 = rss[i].length ∧ a1 = some ⟨b1, o1, none⟩ ∧ w.cell? ⟨b1, o1 + j, none⟩ = some (.slice ad rss[i][j].flat.length cp) ∧ PR w (.slice ad rss[i][j].flat.length cp) rss[i][j] := by
  obtain ⟨g, c, e, _⟩ := own_some h.own (by omega)
  have hn := h.own
  rw [e] at hn
  injection e with e1 e2 e3
  subst e1
  have hc := (ownCell hn (i := i) (by have := h.len; omega)).1
  have hr := h.rows i hi
  have hl := h.len
  rw [List.getD_eq_getElem?_getD, List.getElem?_eq_getElem (by omega)] at hr
  have hr2 : EvR w base cs[i] rss[i] := hr
  obtain ⟨a1, c1, e4⟩ := hr2.sl
  rw [e4] at hr2 hc
  obtain ⟨b1, o1, ad, cp, e5, k1, k2⟩ := hr2.at hj
  exact ⟨g, a1, _, c1, b1, o1, ad, cp, rfl, hc, rfl, e5, k1, k2⟩
/-- A row's trees; a table's rows. -/
def rowT (f : Nat → Re) (n : Nat) : List Re := (List.range n).map f
def tabT (F : Nat → Nat → Re) (n k : Nat) : List (List Re) := (List.range k).map fun i => rowT (F i) n
theorem rowT_len (f : Nat → Re) (n : Nat) : (rowT f n).length = n := by simp [rowT]
theorem tabT_len (F : Nat → Nat → Re) (n k : Nat) : (tabT F n k).length = k := by simp [tabT]
theorem rowT_zero (f : Nat → Re) : rowT f 0 = [] := rfl
theorem tabT_zero (F : Nat → Nat → Re) (n : Nat) : tabT F n 0 = [] := rfl
theorem rowT_succ (f : Nat → Re) (n : Nat) : rowT f (n + 1) = rowT f n ++ [f n] := by simp [rowT, List.range_succ]
theorem tabT_succ (F : Nat → Nat → Re) (n k : Nat) : tabT F n (k + 1) = tabT F n k ++ [rowT (F k) n] := by simp [tabT, List.range_succ]
theorem rowT_at (f : Nat → Re) {n i : Nat} (h : i < (rowT f n).length) : (rowT f n)[i] = f i := by simp [rowT]
theorem tabT_at (F : Nat → Nat → Re) {n k i : Nat} (h : i < (tabT F n k).length) : (tabT F n k)[i] = rowT (F i) n := by simp [tabT]
/-- A table's entry. -/
theorem EtR.get {w : World} {base n k : Nat} {F : Nat → Nat → Re} {a : Option Addr} {m cap : Nat} {cs : List Value} (h : EtR w base (.slice a m cap) (tabT F n k) cs) {i j : Nat} (hi : i < k) (hj : j < n) :
    ∃ g b1 o1 c1 ad cp, a = some ⟨g, 0, none⟩ ∧ w.cell? ⟨g, i, none⟩ = some (.slice (some ⟨b1, o1, none⟩) n c1) ∧ w.cell? ⟨b1, o1 + j, none⟩ = some (.slice ad (F i j).flat.length cp) ∧ PR w (.slice ad (F i j).flat.length cp) (F i j) := by
  have hi' : i < (tabT F n k).length := by rw [tabT_len]; exact hi
  have hr := tabT_at F hi'
  have hj' : j < (tabT F n k)[i].length := by rw [hr, rowT_len]; exact hj
  obtain ⟨g, a1, n1, c1, b1, o1, ad, cp, e1, x1, e2, e3, x2, x3⟩ := h.at hi' hj'
  subst e2 e3
  have he : (tabT F n k)[i][j] = F i j := by simp only [hr]; exact rowT_at (F i) _
  rw [he] at x2 x3
  have hl : (tabT F n k)[i].length = n := by rw [hr, rowT_len]
  rw [hl] at x1
  exact ⟨g, b1, o1, c1, ad, cp, e1, x1, x2, x3⟩
/-- A table's row. -/
theorem EtR.row {w : World} {base n k : Nat} {F : Nat → Nat → Re} {a : Option Addr} {m cap : Nat} {cs : List Value} (h : EtR w base (.slice a m cap) (tabT F n k) cs) {i : Nat} (hi : i < k) (hn : 0 < n) :
    ∃ g b1 o1 c1, a = some ⟨g, 0, none⟩ ∧ w.cell? ⟨g, i, none⟩ = some (.slice (some ⟨b1, o1, none⟩) n c1) ∧ ∀ j, j < n → ∃ ad m1 cp, w.cell? ⟨b1, o1 + j, none⟩ = some (.slice ad m1 cp) ∧ m1 = (F i j).len ∧ PR w (.slice ad m1 cp) (F i j) := by
  obtain ⟨g, b1, o1, c1, _, _, e1, x1, _, _⟩ := h.get hi hn
  refine ⟨g, b1, o1, c1, e1, x1, fun j hj => ?_⟩
  obtain ⟨g', b2, o2, c2, ad, cp, e2, x2, x3, x4⟩ := h.get hi hj
  rw [e1] at e2; cases e2
  rw [x1] at x2; cases x2
  exact ⟨ad, _, cp, x3, rfl, x4⟩
theorem PR.slN {w : World} {v : Value} {t : Re} (h : PR w v t) : ∃ (a : Option Addr) (n x : Nat), v = .slice a n x ∧ n = t.len := let ⟨_, _, z, _⟩ := h.shape; ⟨_, _, _, z, rfl⟩
end Go.Proofs.Ytbcjhiponbfbnaa
