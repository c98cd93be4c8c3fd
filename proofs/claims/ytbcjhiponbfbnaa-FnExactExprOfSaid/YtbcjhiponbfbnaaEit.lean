/- Tables of expressions whose rows are stored back. -/
import Derived.Test.YtbcjhiponbfbnaaEtb
set_option linter.unusedSimpArgs false
set_option linter.unusedVariables false
set_option linter.unusedSectionVars false
namespace Go.Proofs.Ytbcjhiponbfbnaa
open Go.RowKit
set_option maxRecDepth 100000
variable {S T : Nat → Prop}
theorem elExprss : ElemT 83 84 1 24 := ElemT.of (z := .slice none 0 0) Try.underlying83 (by kernel_rfl) rfl (by decide)
theorem elPSe : ElemT 84 23 1 24 := ElemT.of (z := .slice none 0 0) Try.underlying84 (by kernel_rfl) rfl (by decide)
/-- A table whose row i is under way: its first j entries are there; the rows before it are whole, those behind it are empty. -/
structure ItP (w : World) (base wk gH n : Nat) (F : Nat → Nat → Re) (i j : Nat) (cs : List Value) : Prop where
  own : w.ownsRow base 84 1 (.slice (some ⟨gH, 0, none⟩) n n) n cs
  rows : ∀ i', i' < i → EvR w base (cs.getD i' undef) (rowT (F i') n) ∧ ∀ c, (cs.getD i' undef).ownBlock = some c → c < wk
  cur : EvR w wk (cs.getD i undef) (rowT (F i) j)
  rest : ∀ i', i < i' → i' < n → cs.getD i' undef = .slice none 0 0
  le : base ≤ wk
  sz : wk ≤ w.heap.size
/-- Its first i rows are whole, the rest is empty. -/
structure ItR (w : World) (base gH n : Nat) (F : Nat → Nat → Re) (i : Nat) (cs : List Value) : Prop where
  own : w.ownsRow base 84 1 (.slice (some ⟨gH, 0, none⟩) n n) n cs
  rows : ∀ i', i' < i → EvR w base (cs.getD i' undef) (rowT (F i') n)
  rest : ∀ i', i ≤ i' → i' < n → cs.getD i' undef = .slice none 0 0
  sz : base ≤ w.heap.size
variable {w w' : World} {base wk gH n i j : Nat} {F : Nat → Nat → Re} {cs : List Value}
theorem EvR.lt {v : Value} {us : List Re} (h : EvR w base v us) : ∀ c, v.ownBlock = some c → base ≤ c ∧ c < w.heap.size := let ⟨_, a, _⟩ := h; own_ge a
theorem ItR.len (h : ItR w base gH n F i cs) : cs.length = n := by have := h.own.1; omega
theorem ItP.len (h : ItP w base wk gH n F i j cs) : cs.length = n := by have := h.own.1; omega
theorem ItR.start (h : ItR w base gH n F i cs) (hi : i < n) : ItP w base w.heap.size gH n F i 0 cs where
  own := h.own
  rows := fun i' hi' => ⟨h.rows i' hi', fun c hc => ((h.rows i' hi').lt c hc).2⟩
  cur := by rw [h.rest i (Nat.le_refl _) hi]; exact EvR.nil _ _
  rest := fun i' h1 h2 => h.rest i' (by omega) h2
  le := h.sz
  sz := Nat.le_refl _
theorem ItP.fin (h : ItP w base wk gH n F i n cs) : ItR w base gH n F (i + 1) cs where
  own := h.own
  rows := fun i' hi' => by
    by_cases hlt : i' < i
    · exact (h.rows i' hlt).1
    · obtain rfl : i' = i := by omega
      exact h.cur.base h.le
  rest := fun i' h1 h2 => h.rest i' (by omega) h2
  sz := Nat.le_trans h.le h.sz
theorem ItP.stay (h : ItP w base wk gH n F i j cs) (k : Below w.heap.size w w') : ItP w' base wk gH n F i j cs where
  own := ownStay h.own k
  rows := fun i' hi' => ⟨(h.rows i' hi').1.stay k, (h.rows i' hi').2⟩
  cur := h.cur.stay k
  rest := h.rest
  le := h.le
  sz := Nat.le_trans h.sz k.size
theorem ItR.stay (h : ItR w base gH n F i cs) (k : Below w.heap.size w w') : ItR w' base gH n F i cs where
  own := ownStay h.own k
  rows := fun i' hi' => (h.rows i' hi').stay k
  rest := h.rest
  sz := Nat.le_trans h.sz k.size
/-- A whole table is read. -/
theorem ItR.full (h : ItR w base gH n F n cs) : EtR w base (.slice (some ⟨gH, 0, none⟩) n n) (tabT F n n) cs where
  own := by rw [tabT_len]; exact h.own
  rows := fun i hi => by rw [tabT_at]; exact h.rows i (by rw [tabT_len] at hi; exact hi)
/-- The header's cell of the row under way. -/
theorem ItP.cell (h : ItP w base wk gH n F i j cs) (hi : i < n) : w.cell? ⟨gH, i, none⟩ = some (cs.getD i undef) ∧ w.frozen? ⟨gH, i, none⟩ = false := by
  have hl := h.len
  refine ⟨?_, h.own.frozenAt i⟩
  rw [h.own.cellAt i (by omega), List.getD_eq_getElem?_getD, List.getElem?_eq_getElem (by omega)]; rfl
theorem getD_ne {cs : List Value} {i i' : Nat} {v : Value} (h : i' ≠ i) : (cs.set i v).getD i' undef = cs.getD i' undef := by
  rw [List.getD_eq_getElem?_getD, List.getD_eq_getElem?_getD, List.getElem?_set, if_neg (fun e => h e.symm)]
theorem getD_eq {cs : List Value} {i : Nat} {v : Value} (h : i < cs.length) : (cs.set i v).getD i undef = v := by
  rw [List.getD_eq_getElem?_getD, List.getElem?_set, if_pos rfl, if_pos h]; rfl
/-- The row was appended to: the header's cell stands still. -/
theorem ItP.cellG (h : ItP w base wk gH n F i j cs) (hi : i < n) {v : Value} (hv : cs.getD i undef = v) {csr : List Value} {sz m : Nat} (ho : w.ownsRow wk 23 sz v m csr) (hg : w.grownBy w' v.ownBlock) :
    w'.cell? ⟨gH, i, none⟩ = some v ∧ w'.frozen? ⟨gH, i, none⟩ = false := by
  subst hv
  have ho2 : w'.ownsRow base 84 1 (.slice (some ⟨gH, 0, none⟩) n n) n cs := World.ownsRow.kept h.own hg (ownOr h.own ho (ownNe2 h.own ho (by decide)))
  have hl := h.len
  refine ⟨?_, ho2.frozenAt i⟩
  rw [ho2.cellAt i (by omega), List.getD_eq_getElem?_getD, List.getElem?_eq_getElem (by omega)]; rfl
/-- One entry more, the row stored back. -/
theorem ItP.step (h : ItP w base wk gH n F i j cs) (hi : i < n) {v : Value} (hv : cs.getD i undef = v) {csr : List Value} {x v' : Value} (ho : w.ownsRow wk 23 1 v j csr)
    (hcs : ∀ q (h : q < (rowT (F i) j).length), PR w (csr.getD q undef) (rowT (F i) j)[q]) (hx : PR w x (F i j)) (hg : w.grownBy w' v.ownBlock) (ho' : w'.ownsRow wk 23 1 v' (j + 1) (csr ++ [x])) :
    ItP (w'.setCell ⟨gH, i, none⟩ v') base wk gH n F i (j + 1) (cs.set i v') := by
  subst hv
  have ho2 : w'.ownsRow base 84 1 (.slice (some ⟨gH, 0, none⟩) n n) n cs := World.ownsRow.kept h.own hg (ownOr h.own ho (ownNe2 h.own ho (by decide)))
  obtain ⟨a1, a2⟩ := ho2.stored i v'
  have hl := h.len
  have hor : w.ownsRow wk 23 1 (cs.getD i undef) (rowT (F i) j).length csr := by rw [rowT_len]; exact ho
  refine ⟨a1, fun i' hi' => ?_, ?_, fun i' h1 h2 => ?_, h.le, Nat.le_trans h.sz (Nat.le_trans hg.size a2.size)⟩
  · rw [getD_ne (by omega)]
    obtain ⟨r1, r2⟩ := h.rows i' hi'
    refine ⟨EvR.growE (EvR.grown r1 hg (rowNoPTe ho) ?_) ho2 a2 (by decide) (by decide), r2⟩
    intro c hc e
    have h1 := r2 c hc
    have h2 := (own_ge ho c e).1
    omega
  · rw [getD_eq (by omega)]
    have hc : EvR w' wk v' (rowT (F i) (j + 1)) := by
      rw [rowT_succ]
      exact EvR.app ⟨csr, hor, hcs⟩ hx hg (n := j) (by rw [rowT_len]) hor hcs ho'
    exact EvR.growE hc ho2 a2 (by decide) (by decide)
  · rw [getD_ne (by omega)]
    exact h.rest i' h1 h2
/-- The row under way, as it is read and appended to. -/
theorem ItP.row (h : ItP w base wk gH n F i j cs) : ∃ (av : Option Addr) (cv : Nat) (csr : List Value), cs.getD i undef = .slice av j cv ∧ w.ownsRow wk 23 1 (.slice av j cv) j csr ∧ ∀ q (h : q < (rowT (F i) j).length), PR w (csr.getD q undef) (rowT (F i) j)[q] := by
  obtain ⟨csr, ho, hcs⟩ := h.cur
  obtain ⟨av, cv, e⟩ := h.cur.sl
  rw [rowT_len] at ho e
  rw [e] at ho
  exact ⟨av, cv, csr, e, ho, hcs⟩
/-- An empty table. -/
theorem ItR.make (h : w.ownsRow base 84 1 (.slice (some ⟨gH, 0, none⟩) n n) n (List.replicate n (.slice none 0 0))) (hb : base ≤ w.heap.size) : ItR w base gH n F 0 (List.replicate n (.slice none 0 0)) where
  own := h
  rows := fun i' hi' => absurd hi' (Nat.not_lt_zero _)
  rest := fun i' _ h2 => by rw [List.getD_eq_getElem?_getD, List.getElem?_replicate, if_pos h2]; rfl
  sz := hb
theorem ezExprs : ElemZ 83 84 ((fun _ : Unit => Value.slice none 0 0) ()) 24 := ⟨Try.underlying83, by kernel_rfl, rfl⟩
theorem rowOwnE {b : Nat} (h : Row (fun _ : Unit => Value.slice none 0 0) 84 w b (List.replicate n ())) (hb : base ≤ b) (hn : n ≤ 1000) : w.ownsRow base 84 1 (.slice (some ⟨b, 0, none⟩) n n) n (List.replicate n (.slice none 0 0)) :=
  ⟨by simp, .inr ⟨b, n, _, rfl, hb, h, Nat.le_refl _, by unfold maxLen; omega, by simp, by simp⟩⟩
open Classical in
/-- The answer. -/
noncomputable def ansE (D : DfaD) : Option Re := if fitsE D D.1.length ∧ (outE D D.1.length D.1.length).len ≤ 60 then some (outE D D.1.length D.1.length) else none
theorem ansE_fit {D : DfaD} {n k i j : Nat} (hn : n = D.1.length) (hk : k < n) (hi : i < n) (hj : j < n) (h : ¬ fitE D k i j) : ansE D = none := by
  subst hn
  unfold ansE
  rw [if_neg fun h' => h (h'.1 k i j hk hi hj)]
theorem ansE_long {D : DfaD} {n : Nat} (hn : n = D.1.length) (h : ¬ (outE D n n).len ≤ 60) : ansE D = none := by
  subst hn
  unfold ansE
  rw [if_neg fun h' => h h'.2]
theorem ansE_some {D : DfaD} {n : Nat} (hn : n = D.1.length) (hf : fitsE D n) (h : (outE D n n).len ≤ 60) : ansE D = some (outE D n n) := by
  subst hn
  unfold ansE
  rw [if_pos ⟨hf, h⟩]
theorem lenWay {D : DfaD} {n K i j : Nat} (h : ∀ i j, i < n → j < n → (tabE D K i j).len ≤ 60) (hK : K < n) (hi : i < n) (hj : j < n) : (tabE D K K K).mkStar.len ≤ 61 ∧ ((tabE D K i K).mkJoin (tabE D K K K).mkStar).len ≤ 122 ∧ (wayE (tabE D K) K i j).len ≤ 183 ∧ (tabE D (K + 1) i j).len ≤ 244 := by
  have h1 := h i K hi hK; have h2 := h K K hK hK; have h3 := h K j hK hj; have h4 := h i j hi hj
  have h5 := len_mkStar (tabE D K K K)
  have h6 := len_mkJoin (tabE D K i K) (tabE D K K K).mkStar
  have h7 := len_mkJoin ((tabE D K i K).mkJoin (tabE D K K K).mkStar) (tabE D K K j)
  have h8 := len_mkEither (tabE D K i j) (wayE (tabE D K) K i j)
  refine ⟨by omega, by omega, ?_, ?_⟩
  · show (((tabE D K i K).mkJoin (tabE D K K K).mkStar).mkJoin (tabE D K K j)).len ≤ 183
    omega
  · show ((tabE D K i j).mkEither (wayE (tabE D K) K i j)).len ≤ 244
    have : (wayE (tabE D K) K i j).len ≤ 183 := by
      show (((tabE D K i K).mkJoin (tabE D K K K).mkStar).mkJoin (tabE D K K j)).len ≤ 183
      omega
    omega
open Classical in
/-- What ExprOf answers. -/
noncomputable def ansO (D : DfaD) : Option Re := if okD D then ansE (canon (lgD D)) else none
def ansQ : Option Re → List (Int × Int)
  | some t => t.flat
  | none => []
theorem ansO_yes {D : DfaD} (h : okD D) : ansO D = ansE (canon (lgD D)) := if_pos h
theorem ansO_no {D : DfaD} (h : ¬ okD D) : ansO D = none := if_neg h
theorem ansQ_len (D : DfaD) : (ansQ (ansO D)).length ≤ 1000000000000 := by
  by_cases h : okD D
  · rw [ansO_yes h]
    unfold ansE
    split
    · rename_i h2
      show (outE _ _ _).flat.length ≤ _
      have h3 := h2.2
      unfold Re.len at h3
      omega
    · simp [ansQ]
  · rw [ansO_no h]; simp [ansQ]
/-- A list of parts and a bool: read. -/
def RPr (w : World) (P : Prop) (Q : List (Int × Int)) (e : Ending) (w' : World) : Prop := ∃ v b, e = .returned (.tuple #[v, .bool b]) ∧ Below w.heap.size w w' ∧ Hid (b = true ↔ P) ∧ Hid (PL0 w' v Q)
/-- The same, in memory of the call's own. -/
def RPw (w : World) (P : Prop) (Q : List (Int × Int)) (e : Ending) (w' : World) : Prop := ∃ v b, e = .returned (.tuple #[v, .bool b]) ∧ Below w.heap.size w w' ∧ Hid (b = true ↔ P) ∧ Hid (OwnP w' w.heap.size v Q)
theorem tabE_succ (D : DfaD) (k i j : Nat) : tabE D (k + 1) i j = (tabE D k i j).mkEither (wayE (tabE D k) k i j) := rfl
theorem wayE_eq (tab : Nat → Nat → Re) (k i j : Nat) : wayE tab k i j = ((tab i k).mkJoin (tab k k).mkStar).mkJoin (tab k j) := rfl
end Go.Proofs.Ytbcjhiponbfbnaa
