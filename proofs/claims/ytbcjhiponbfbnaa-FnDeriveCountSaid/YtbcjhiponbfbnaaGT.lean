/- How many derivatives there are: the plain law.
How many derivatives there are: the program's answer.
How many derivatives there are: the reference's answer; both, for expressions that are not valid. -/
import Derived.Deep.RegionHeld3
import Derived.StringKeys
import Derived.Test.YtbcjhiponbfbnaaGQ
import Derived.Test.YtbcjhiponbfbnaaWds
import Derived.Test.YtbcjhiponbfbnaaGS
import Derived.Test.YtbcjhiponbfbnaaExq2
import Derived.Test.YtbcjhiponbfbnaaApf
import Derived.Test.YtbcjhiponbfbnaaGR
set_option linter.unusedSimpArgs false
set_option linter.unusedVariables false
set_option linter.unusedSectionVars false
namespace Go.Proofs.Ytbcjhiponbfbnaa
open Go.RowKit
set_option maxRecDepth 100000
theorem nodup_len {α : Type} [DecidableEq α] {l : List α} : ∀ {m : List α}, l.Nodup → (∀ x ∈ l, x ∈ m) → l.length ≤ m.length := by
  induction l with
  | nil => intro m _ _; exact Nat.zero_le _
  | cons a l ih =>
    intro m hn hs
    obtain ⟨ha, hn⟩ := List.nodup_cons.1 hn
    have hm := hs a (by simp)
    have := ih (m := m.erase a) hn (fun x hx => by
      have hxa : x ≠ a := fun e => ha (by rw [← e]; exact hx)
      rw [List.mem_erase_of_ne hxa]
      exact hs x (by simp [hx]))
    rw [List.length_erase_of_mem hm] at this
    have := List.length_pos_of_mem hm
    simp; omega
/-- One more, if it is new. -/
def ins (L : List Re) (u : Re) : List Re := if u ∈ L then L else L ++ [u]
def insL (L us : List Re) : List Re := us.foldl ins L
theorem ins_nodup {L : List Re} (h : L.Nodup) (u : Re) : (ins L u).Nodup := by
  unfold ins
  split
  · exact h
  · rename_i hu
    rw [List.nodup_append]
    exact ⟨h, by simp, fun a ha b hb => by simp at hb; subst hb; exact fun e => hu (e ▸ ha)⟩
theorem insL_nodup (us : List Re) : ∀ {L : List Re}, L.Nodup → (insL L us).Nodup := by
  induction us with
  | nil => intro L h; exact h
  | cons u us ih => intro L h; exact ih (ins_nodup h u)
theorem mem_ins {L : List Re} {u x : Re} : x ∈ ins L u ↔ x ∈ L ∨ x = u := by
  unfold ins
  split
  · rename_i h; exact ⟨.inl, fun hx => hx.elim id fun e => e ▸ h⟩
  · simp
theorem mem_insL (us : List Re) : ∀ {L : List Re} {x : Re}, x ∈ insL L us ↔ x ∈ L ∨ x ∈ us := by
  induction us with
  | nil => intro L x; simp [insL]
  | cons u us ih =>
    intro L x
    show x ∈ insL (ins L u) us ↔ _
    rw [ih, mem_ins, List.mem_cons, or_assoc]
theorem insL_app (L us vs : List Re) : insL L (us ++ vs) = insL (insL L us) vs := List.foldl_append
theorem ins_len (L : List Re) (u : Re) : (ins L u).length ≤ L.length + 1 := by unfold ins; split <;> simp
theorem insL_len (us : List Re) : ∀ L : List Re, (insL L us).length ≤ L.length + us.length := by
  induction us with
  | nil => intro L; exact Nat.le_refl _
  | cons u us ih => intro L; have h1 := ih (ins L u); have h2 := ins_len L u; show (insL (ins L u) us).length ≤ _; simp only [List.length_cons]; omega
/-- The derivatives by the letters below c. -/
def nxt (u : Re) : Nat → List Re
  | 0 => []
  | c + 1 => nxt u c ++ (der1 (c : Int) u).toList
theorem nxt_len (u : Re) (c : Nat) : (nxt u c).length ≤ c := by
  induction c with
  | zero => exact Nat.le_refl _
  | succ c ih =>
    have : (der1 (c : Int) u).toList.length ≤ 1 := by cases der1 (c : Int) u <;> simp
    simp only [nxt, List.length_append]; omega
theorem mem_nxt {u x : Re} {c : Nat} : x ∈ nxt u c ↔ ∃ d : Nat, d < c ∧ der1 (d : Int) u = some x := by
  induction c with
  | zero => simp [nxt]
  | succ c ih =>
    simp only [nxt, List.mem_append, ih]
    constructor
    · rintro (⟨d, hd, h⟩ | h)
      · exact ⟨d, by omega, h⟩
      · exact ⟨c, by omega, by simpa using h⟩
    · rintro ⟨d, hd, h⟩
      rcases Nat.lt_succ_iff_lt_or_eq.1 hd with h1 | rfl
      · exact .inl ⟨d, h1, h⟩
      · exact .inr (by simpa using h)
/-- The derivatives of all of these. -/
def nxtL (us : List Re) : List Re := us.flatMap fun u => nxt u 3
/-- The derivatives by the words of k letters. -/
def lvl (t : Re) : Nat → List Re
  | 0 => [t]
  | k + 1 => nxtL (lvl t k)
/-- The derivatives by the words of less than k letters. -/
def alls (t : Re) : Nat → List Re
  | 0 => []
  | k + 1 => alls t k ++ lvl t k
def letW (w : List Int) : Prop := ∀ c ∈ w, 0 ≤ c ∧ c ≤ 2
theorem mem_lvl {t x : Re} {k : Nat} : x ∈ lvl t k ↔ ∃ w : List Int, w.length = k ∧ letW w ∧ derW w t = some x := by
  induction k generalizing x with
  | zero =>
    simp only [lvl, List.mem_singleton]
    constructor
    · rintro rfl; exact ⟨[], rfl, (fun c h => by cases h), rfl⟩
    · rintro ⟨w, hw, _, h⟩
      have := List.eq_nil_of_length_eq_zero hw
      subst this; cases h; rfl
  | succ k ih =>
    simp only [lvl, nxtL, List.mem_flatMap, mem_nxt, ih]
    constructor
    · rintro ⟨u, ⟨w, hw, hl, h⟩, d, hd, hx⟩
      refine ⟨w ++ [(d : Int)], by simp [hw], fun c hc => ?_, ?_⟩
      · rcases List.mem_append.1 hc with hc | hc
        · exact hl c hc
        · simp at hc; omega
      · rw [derW_app, h, Option.bind_some, derW_one, hx]
    · rintro ⟨w, hw, hl, h⟩
      have hne : w ≠ [] := by intro e; subst e; simp at hw
      have hsn : w = w.dropLast ++ [w.getLast hne] := (List.dropLast_concat_getLast hne).symm
      have hlast := hl _ (List.getLast_mem hne)
      rw [hsn, derW_app] at h
      cases hd : derW w.dropLast t with
      | none => rw [hd] at h; cases h
      | some u =>
        rw [hd, Option.bind_some, derW_one] at h
        refine ⟨u, ⟨w.dropLast, by simp [hw], fun c hc => hl c (List.dropLast_subset _ hc), hd⟩, (w.getLast hne).toNat, by omega, ?_⟩
        rw [show (((w.getLast hne).toNat : Nat) : Int) = w.getLast hne by omega]; exact h
theorem mem_alls {t x : Re} {k : Nat} : x ∈ alls t k ↔ ∃ w : List Int, w.length < k ∧ letW w ∧ derW w t = some x := by
  induction k with
  | zero => simp [alls]
  | succ k ih =>
    simp only [alls, List.mem_append, ih, mem_lvl]
    constructor
    · rintro (⟨w, h1, h2⟩ | ⟨w, h1, h2⟩)
      · exact ⟨w, by omega, h2⟩
      · exact ⟨w, by omega, h2⟩
    · rintro ⟨w, h1, h2⟩
      rcases Nat.lt_succ_iff_lt_or_eq.1 h1 with h | h
      · exact .inl ⟨w, h, h2⟩
      · exact .inr ⟨w, h, h2⟩
theorem nxtL_len (us : List Re) : (nxtL us).length ≤ 3 * us.length := by
  unfold nxtL
  induction us with
  | nil => simp
  | cons u us ih => have := nxt_len u 3; simp only [List.flatMap_cons, List.length_append, List.length_cons]; omega
def pw3 : Nat → Nat
  | 0 => 1
  | k + 1 => 3 * pw3 k
theorem lvl_len (t : Re) (k : Nat) : (lvl t k).length ≤ pw3 k := by
  induction k with
  | zero => exact Nat.le_refl _
  | succ k ih => have := nxtL_len (lvl t k); show (nxtL (lvl t k)).length ≤ 3 * pw3 k; omega
/-- How many words have less than k letters. -/
def sw3 : Nat → Nat
  | 0 => 0
  | k + 1 => sw3 k + pw3 k
theorem alls_len (t : Re) (k : Nat) : (alls t k).length ≤ sw3 k := by
  induction k with
  | zero => exact Nat.le_refl _
  | succ k ih => have := lvl_len t k; simp only [alls, List.length_append, sw3]; omega
/-- The different ones, as they come. -/
def seenD (t : Re) (n : Nat) : List Re := insL [] (alls t (n + 1))
theorem seenD_nodup (t : Re) (n : Nat) : (seenD t n).Nodup := insL_nodup _ List.nodup_nil
theorem mem_seenD {t x : Re} {n : Nat} : x ∈ seenD t n ↔ ∃ w : List Int, w.length ≤ n ∧ letW w ∧ derW w t = some x := by
  unfold seenD
  rw [mem_insL, mem_alls]
  simp only [List.not_mem_nil, false_or, Nat.lt_succ_iff]
/-- What the words with the numbers below k lead to. -/
def byNum (t : Re) : Nat → List Re
  | 0 => []
  | k + 1 => byNum t k ++ (derW (wdN k) t).toList
theorem mem_byNum {t x : Re} {k : Nat} : x ∈ byNum t k ↔ ∃ j, j < k ∧ derW (wdN j) t = some x := by
  induction k with
  | zero => simp [byNum]
  | succ k ih =>
    simp only [byNum, List.mem_append, ih]
    constructor
    · rintro (⟨j, hj, h⟩ | h)
      · exact ⟨j, by omega, h⟩
      · exact ⟨k, by omega, by simpa using h⟩
    · rintro ⟨j, hj, h⟩
      rcases Nat.lt_succ_iff_lt_or_eq.1 hj with h1 | rfl
      · exact .inl ⟨j, h1, h⟩
      · exact .inr (by simpa using h)
def foundD (t : Re) (k : Nat) : List Re := insL [] (byNum t k)
theorem found_step (t : Re) (k : Nat) : foundD t (k + 1) = insL (foundD t k) (derW (wdN k) t).toList := insL_app _ _ _
theorem found_len (t : Re) (k : Nat) : (foundD t k).length ≤ k := by
  have h1 := insL_len (byNum t k) []
  have h2 : (byNum t k).length ≤ k := by
    induction k with
    | zero => exact Nat.le_refl _
    | succ k ih =>
      have : (derW (wdN k) t).toList.length ≤ 1 := by cases derW (wdN k) t <;> simp
      have := ih (insL_len _ _)
      simp only [byNum, List.length_append]; omega
  unfold foundD
  simp at h1
  omega
/-- Both ways come to as many. -/
theorem seen_found (t : Re) {n : Nat} (hn : n ≤ 8) : (seenD t n).length = (foundD t (nW n)).length := by
  have hm : ∀ x, x ∈ seenD t n ↔ x ∈ foundD t (nW n) := by
    intro x
    unfold foundD
    rw [mem_seenD, mem_insL, mem_byNum]
    simp only [List.not_mem_nil, false_or]
    constructor
    · rintro ⟨w, h1, h2, h3⟩
      obtain ⟨j, hj⟩ := wdF_all w h2 9 (by omega)
      refine ⟨j, (wdF_len 9 n j (by omega)).2 (by rw [hj]; exact h1), ?_⟩
      rw [show wdN j = w from hj]; exact h3
    · rintro ⟨j, hj, h⟩
      exact ⟨wdN j, (wdF_len 9 n j (by omega)).1 hj, wdF_let 9 j, h⟩
  exact Nat.le_antisymm (nodup_len (seenD_nodup t n) fun x hx => (hm x).1 hx) (nodup_len (insL_nodup _ List.nodup_nil) fun x hx => (hm x).2 hx)
theorem seen_pos (t : Re) (n : Nat) : 1 ≤ (seenD t n).length := List.length_pos_of_mem (mem_seenD.2 ⟨[], Nat.zero_le _, (fun c h => by cases h), rfl⟩ : t ∈ seenD t n)
theorem seen_le (t : Re) (n : Nat) : (seenD t n).length ≤ sw3 (n + 1) := by
  have h1 := insL_len (alls t (n + 1)) []
  have h2 := alls_len t (n + 1)
  unfold seenD
  simp at h1; omega
theorem seen_mono (t : Re) (n : Nat) : (seenD t n).length ≤ (seenD t (n + 1)).length := nodup_len (seenD_nodup t n) fun x hx => by
  obtain ⟨w, h1, h2⟩ := mem_seenD.1 hx
  exact mem_seenD.2 ⟨w, by omega, h2⟩
theorem wf_of_derW {t x : Re} (ht : t.wf) {w : List Int} (h : derW w t = some x) : x.wf := derW_wf h ht
theorem lvl_ok {t : Re} (ht : t.wf) (hl : t.len ≤ 60) {k : Nat} {x : Re} (h : x ∈ lvl t k) : x.wf ∧ x.len ≤ 60 := by
  obtain ⟨w, _, _, hw⟩ := mem_lvl.1 h
  exact ⟨derW_wf hw ht, derW_len hw hl⟩
end Go.Proofs.Ytbcjhiponbfbnaa
namespace Go.Proofs.Ytbcjhiponbfbnaa
open Go.RowKit Go.ChangeMaps
set_option maxRecDepth 100000
variable {S T : Nat → Prop}
/-- The text as a string. -/
def bT (t : Re) : ByteArray := ⟨t.tx.toArray⟩
theorem bT_eq {s : ByteArray} {t : Re} (h : s.data.toList = t.tx) : s = bT t := ByteArray.ext (by unfold bT; rw [← h])
theorem bT_inj {t u : Re} (ht : t.wf) (hu : u.wf) (h : bT t = bT u) : t = u := tx_inj ht hu (by have := congrArg (fun s : ByteArray => s.data.toList) h; simpa [bT] using this)
theorem bT_size (t : Re) : (bT t).size = t.tx.length := by unfold bT; simp [ByteArray.size]
/-- The map's entries. -/
def esD (L : List Re) : List (Value × Value) := L.map fun u => (.string (bT u), .bool true)
theorem esD_app (L : List Re) (u : Re) : esD (L ++ [u]) = esD L ++ [(.string (bT u), .bool true)] := by simp [esD]
theorem esD_len (L : List Re) : (esD L).length = L.length := by simp [esD]
theorem keyS {s : ByteArray} (h : s.size ≤ maxLen) : ∃ l, keyOf Try.prog 9 (.string s) = some l := ⟨_, Go.WideMaps.keyOf_string_mk Try.underlying9 h⟩
theorem put_ins {w : World} {mb : Nat} {L : List Re} {u : Re} (h : MEN w mb (esD L)) (hL : ∀ x ∈ L, x.wf ∧ x.len ≤ 60) (hu : u.wf ∧ u.len ≤ 60) :
    ∃ w', (Instr.mapUpdate 94 (.map (some mb)) (.string (bT u)) (.bool true)).run Try.prog w = .ok () w' ∧ MEN w' mb (esD (ins L u)) ∧ w.grownBy w' (some mb) := by
  have hk : ∀ x : Re, x.len ≤ 60 → ∃ l, keyOf Try.prog 9 (.string (bT x)) = some l := fun x hx => keyS (by have := tx_len x; rw [bT_size]; unfold maxLen; unfold Re.len at hx; omega)
  have hes : KeysIn 9 (esD L) := by
    intro p hp
    obtain ⟨x, hx, rfl⟩ := List.mem_map.1 hp
    exact hk x (hL x hx).2
  have K : Maps.Keyed Try.prog 9 := Maps.string_keyed Try.underlying9
  by_cases hm : u ∈ L
  · have h1 := mOld (v := .bool true) K Try.underlying94 h (hk u hu.2) hes ⟨_, List.mem_map.2 ⟨u, hm, rfl⟩, rfl⟩ (fun p hp => by obtain ⟨x, _, rfl⟩ := List.mem_map.1 hp; rfl)
    have h2 := MEN.set (es' := esD L) h
    refine ⟨_, h1, ?_, MEN.grown h _⟩
    rw [show ins L u = L from if_pos hm]; exact h2
  · have h1 := mNew (v := .bool true) K Try.underlying94 h (hk u hu.2) hes (fun p hp => by
      obtain ⟨x, hx, rfl⟩ := List.mem_map.1 hp
      intro e
      injection e with e
      exact hm (bT_inj (hL x hx).1 hu.1 e ▸ hx))
    have h2 := MEN.set (es' := esD L ++ [(.string (bT u), .bool true)]) h
    refine ⟨_, h1, ?_, MEN.grown h _⟩
    rw [show ins L u = L ++ [u] from if_neg hm, esD_app]
    have e : (esD L ++ [((.string (bT u) : Value), (.bool true : Value))]).length = (esD L).length + 1 := by simp
    rw [e] at h2
    exact h2
/-- A row of expressions of the call's own. -/
def LvR (w : World) (base : Nat) (v : Value) (us : List Re) : Prop := ∃ cs : List Value, w.ownsRow base 23 1 v us.length cs ∧ ∀ i (h : i < us.length), PR w (cs.getD i undef) us[i]
theorem LvR.stay {w w' : World} {base : Nat} {v : Value} {us : List Re} (h : LvR w base v us) (k : Below w.heap.size w w') : LvR w' base v us := let ⟨cs, a, b⟩ := h; ⟨cs, ownStay a k, fun i hi => (b i hi).stay k⟩
theorem LvR.grown {w w' : World} {base : Nat} {v : Value} {us : List Re} {row : Option Nat} (h : LvR w base v us) (hg : w.grownBy w' row) (hn : ∀ c, row = some c → ¬ PT w c) (hne : ∀ c, v.ownBlock = some c → row ≠ some c) : LvR w' base v us := by
  obtain ⟨cs, a, b⟩ := h
  refine ⟨cs, World.ownsRow.kept a hg ?_, fun i hi => (b i hi).grown hg hn⟩
  rcases hv : v.ownBlock with _ | k
  · exact .inl rfl
  · exact .inr (fun e => hne k hv e.symm)
theorem LvR.nil (w : World) (base : Nat) : LvR w base (.slice none 0 0) [] := ⟨[], World.ownsRow_nil _ _ _ _, fun i hi => absurd hi (Nat.not_lt_zero _)⟩
theorem LvR.sl {w : World} {base : Nat} {v : Value} {us : List Re} (h : LvR w base v us) : ∃ a cap, v = .slice a us.length cap := by
  obtain ⟨cs, a, _⟩ := h
  obtain ⟨ad, cp, e, _⟩ := (ownFl a).fl
  exact ⟨ad, cp, e⟩
theorem LvR.at {w : World} {base : Nat} {a : Option Addr} {n cap : Nat} {us : List Re} (h : LvR w base (.slice a n cap) us) {k : Nat} (hk : k < us.length) : ∃ b off ad cp, a = some ⟨b, off, none⟩ ∧ w.cell? ⟨b, off + k, none⟩ = some (.slice ad us[k].flat.length cp) ∧ PR w (.slice ad us[k].flat.length cp) us[k] := by
  obtain ⟨cs, o, h2⟩ := h
  have hl : cs.length = us.length := by have := o.1; omega
  obtain ⟨b, off, e, hc⟩ := (ownFl o).fl.at (i := k) (by omega)
  have hp := h2 k hk
  rw [List.getD_eq_getElem?_getD, List.getElem?_eq_getElem (by omega)] at hp
  obtain ⟨ad, cp, e2, _⟩ := PR.shape hp
  refine ⟨b, off, ad, cp, e, ?_, ?_⟩
  · rw [hc]; exact congrArg some e2
  · rw [← e2]; exact hp
theorem rowNoPT {w : World} {base sz n : Nat} {v : Value} {cs : List Value} (h : w.ownsRow base 23 sz v n cs) : ∀ c, v.ownBlock = some c → ¬ PT w c := by
  rintro c hc ⟨cs', fz, e⟩
  rcases h.2 with ⟨rfl, _⟩ | ⟨g, cp, cur, rfl, _, hh, _⟩
  · cases hc
  · cases hc
    rw [hh] at e
    injection e with e
    injection e with _ e2 _
    exact absurd e2 (by decide)
theorem mapNoPT {w : World} {mb : Nat} {es : List (Value × Value)} (h : MEN w mb es) : ¬ PT w mb := by
  rintro ⟨cs, fz, e⟩
  unfold MEN at h
  rw [h] at e
  injection e with e
  cases e
/-- One expression more. -/
theorem LvR.app {w w' : World} {base n : Nat} {v v' : Value} {us : List Re} {u : Re} {x : Value} (h : LvR w base v us) (hx : PR w x u) (hg : w.grownBy w' v.ownBlock) (hn : n = us.length) {cs : List Value}
    (ho : w.ownsRow base 23 1 v us.length cs) (hcs : ∀ i (h : i < us.length), PR w (cs.getD i undef) us[i]) (ho' : w'.ownsRow base 23 1 v' (n + 1) (cs ++ [x])) : LvR w' base v' (us ++ [u]) := by
  subst hn
  have hnp := rowNoPT ho
  have hl : cs.length = us.length := by have := ho.1; omega
  refine ⟨cs ++ [x], by rw [List.length_append]; exact ho', fun i hi => ?_⟩
  rw [List.length_append, List.length_singleton] at hi
  by_cases hiu : i < us.length
  · have h1 := (hcs i hiu).grown hg hnp
    rw [List.getD_eq_getElem?_getD, List.getElem?_append_left (by omega), ← List.getD_eq_getElem?_getD, List.getElem_append_left hiu]
    exact h1
  · have hi2 : i = us.length := by omega
    subst hi2
    have h1 := hx.grown hg hnp
    rw [List.getD_eq_getElem?_getD, List.getElem?_append_right (by omega), List.getElem_append_right (by omega)]
    simp [hl]
    exact h1
/-- Where things stand. -/
structure DS (w wr : World) (mb : Nat) (L : List Re) (vl : Value) (us : List Re) (vn : Value) (ns : List Re) : Prop where
  bel : Below w.heap.size w wr
  mp : MEN wr mb (esD L)
  mB : w.heap.size ≤ mb
  lv : LvR wr w.heap.size vl us
  nx : LvR wr w.heap.size vn ns
  ne : ∀ b, vl.ownBlock = some b → vn.ownBlock ≠ some b
  mv : ∀ b, vl.ownBlock = some b → b ≠ mb
  mn : ∀ b, vn.ownBlock = some b → b ≠ mb
section
variable {w wr w' : World} {mb : Nat} {L L' us ns : List Re} {vl vn : Value}
theorem DS.stay (h : DS w wr mb L vl us vn ns) (k : Below wr.heap.size wr w') : DS w w' mb L vl us vn ns :=
  ⟨h.bel.trans (k.mono h.bel.size), h.mp.stay k, h.mB, h.lv.stay k, h.nx.stay k, h.ne, h.mv, h.mn⟩
theorem DS.put (h : DS w wr mb L vl us vn ns) (hm : MEN w' mb (esD L')) (hg : wr.grownBy w' (some mb)) : DS w w' mb L' vl us vn ns :=
  ⟨h.bel.grown hg h.bel.size (fun k hk => by cases hk; exact h.mB), hm, h.mB, h.lv.grown hg (fun c hc => by cases hc; exact mapNoPT h.mp) (fun c hc e => h.mv c hc (by injection e with e; exact e.symm)),
   h.nx.grown hg (fun c hc => by cases hc; exact mapNoPT h.mp) (fun c hc e => h.mn c hc (by injection e with e; exact e.symm)), h.ne, h.mv, h.mn⟩
theorem DS.app {o : Obj} {g n cap : Nat} {x : Value} {u : Re} {cs : List Value} (h : DS w wr mb L vl us vn ns) (hx : PR wr x u) (ho : wr.ownsRow w.heap.size 23 1 vn ns.length cs) (hcs : ∀ i (h : i < ns.length), PR wr (cs.getD i undef) ns[i])
    (hn : n = ns.length) (ho' : w'.ownsRow w.heap.size 23 1 (.slice (some ⟨g, 0, none⟩) (n + 1) cap) (n + 1) (cs ++ [x])) (hg : (wr.alloc o).grownBy w' vn.ownBlock) (hat : vn.ownBlock = some g ∨ g = wr.heap.size + 1) :
    DS w w' mb L vl us (.slice (some ⟨g, 0, none⟩) (n + 1) cap) (ns ++ [u]) := by
  have k : Below wr.heap.size wr (wr.alloc o) := (Below.refl _ _).alloc (Nat.le_refl _) _
  have hA := h.stay k
  have hoA := ownStay ho k
  have hlt : ∀ b, vn.ownBlock = some b → w.heap.size ≤ b := fun b hb => (World.ownsRow.lt ho b hb).1
  have hnp := rowNoPT hoA
  have hvl : ∀ b, vl.ownBlock = some b → b < wr.heap.size := fun b hb => by obtain ⟨c2, o2, _⟩ := h.lv; exact (World.ownsRow.lt o2 b hb).2
  have hmb : mb < wr.heap.size := (Array.getElem?_eq_some_iff.1 h.mp).1
  refine ⟨hA.bel.grown hg hA.bel.size hlt, ?_, h.mB, hA.lv.grown hg hnp (fun c hc e => h.ne c hc e), hA.nx.app (hx.stay k) hg hn hoA (fun i hi => (hcs i hi).stay k) ho', fun b hb e => ?_, h.mv, fun b hb => ?_⟩
  · unfold MEN; exact blkGrow hg hA.mp (fun e => h.mn mb e.symm rfl)
  · obtain rfl : g = b := by injection e
    rcases hat with h1 | h1
    · exact h.ne _ hb h1
    · have := hvl _ hb; omega
  · obtain rfl : g = b := by injection hb
    rcases hat with h1 | h1
    · exact h.mn _ h1
    · omega
/-- The next level. -/
theorem DS.turn (h : DS w wr mb L vl us vn ns) : DS w wr mb L vn ns (.slice none 0 0) [] :=
  ⟨h.bel, h.mp, h.mB, h.nx, LvR.nil _ _, (fun b _ hb => by cases hb), h.mn, (fun b hb => by cases hb)⟩
end
theorem elPS : ElemT 84 23 1 24 := ElemT.of (z := .slice none 0 0) Try.underlying84 (by kernel_rfl) rfl (by decide)
/-- How many. -/
def cntD (t : Re) (n : Int) : Int := if 0 ≤ n ∧ n ≤ 4 then ((seenD t n.toNat).length : Int) else -1
theorem lenMap {w : World} {b : Nat} {es : List (Value × Value)} (h : MEN w b es) : (Builtin.len_ #[94] 3 #[.map (some b)]).run Try.prog w = .ok (.int .i64 (es.length : Int)) w := by
  simp [Builtin.len_, run_underlying Try.underlying94, MapKept.run_getObj_map h, EN_size, Result.andThen]
  rfl
theorem lenM {w : World} {b : Nat} {es : List (Value × Value)} (h : MEN w b es) : (EN es).size = es.length := EN_size es
set_option maxHeartbeats 4000000 in
theorem DeriveCount_c (t : Re) (hl : t.len ≤ 60) (n : Int) (hn : -1 ≤ n ∧ n ≤ 4) (v : Value) (w : World) (h : PR w v t) : Calls Try.prog 35 #[v, .int .i64 n] w (RIn w fun m => m = cntD t n) := by
  obtain ⟨a, cap, rfl, hnl⟩ := h.shape
  have hok : ExprOk t.flat := (exprOk_iff _).2 ⟨t, h.1, rfl, hl⟩
  have H := Lib.hid h; have HO := Lib.hid hok; have HT := Lib.hid h.1; have HL := Lib.hid hl
  clear h hok hl hnl
  go_enter Try.func35, Try.ntmps35
  go_wp2_with fail
  refine (ExprValid_c _ t.flat w H.out.2).mono ?_
  rintro x w1 ⟨b1, rfl, hb1, hv⟩
  obtain rfl : b1 = true := hv.out.2 HO.out
  have H1 := Lib.hid (H.out.stay hb1)
  have HB1 := Lib.hid hb1
  clear hb1 hv H
  go_wp2_with fail
  refine (within_c n 0 4 w1).mono ?_
  rintro x w2 ⟨b2, rfl, rfl, hv⟩
  cases b2
  · have HC : Hid (cntD t n = -1) := Lib.hid (if_neg (hbF hv))
    clear hv
    go_wp2
    go_ret
    exact RIn.mk HB1.out HC.out.symm
  have hn04 := hbT hv
  have HC : Hid (cntD t n = ((seenD t n.toNat).length : Int)) := Lib.hid (if_pos hn04)
  obtain ⟨N, hN⟩ : ∃ N : Nat, n = (N : Int) := ⟨n.toNat, by omega⟩
  subst hN
  have hN4 : N ≤ 4 := by omega
  rw [show ((N : Int)).toNat = N by omega] at HC
  clear hv hn04 hn
  have hmm := @run_makeMap Try.prog
  obtain ⟨W, hW⟩ : ∃ W, W = (w1.alloc (.map #[] 0)).alloc (.cells #[.slice a t.flat.length cap] 23) := ⟨_, rfl⟩
  have hbW : Below w1.heap.size w1 W := by rw [hW]; exact ((Below.refl _ _).alloc (Nat.le_refl _) _).alloc (by simp) _
  have HDS : Hid (DS w1 W w1.heap.size (insL [] (alls t 0)) (.slice (some ⟨w1.heap.size + 1, 0, none⟩) 1 1) (lvl t 0) (.slice none 0 0) []) := Lib.hid (by
    refine ⟨hbW, ?_, Nat.le_refl _, ⟨[.slice a t.flat.length cap], ?_, fun i hi => ?_⟩, LvR.nil _ _, (fun b _ hb => by cases hb), fun b hb => ?_, (fun b hb => by cases hb)⟩
    · rw [hW]; exact blkOld (MEN.made w1)
    · rw [hW]
      have := ownLit (w := w1.alloc (.map #[] 0)) (base := w1.heap.size) (n := 1) (e := 23) (sz := 1) [.slice a t.flat.length cap] (by simp) (by omega) rfl
      rw [show (w1.alloc (.map #[] 0)).heap.size = w1.heap.size + 1 by simp] at this
      exact this
    · obtain rfl : i = 0 := by have h1 : i < 1 := hi; omega
      exact H1.out.stay hbW
    · have hbb : w1.heap.size + 1 = b := by injection hb
      omega)
  have HLv : Hid (∀ k, k ≤ 4 → (lvl t k).length ≤ 81) := Lib.hid (fun k hk => by
    have h1 := lvl_len t k
    have h2 : pw3 k ≤ 81 := by rcases (by omega : k = 0 ∨ k = 1 ∨ k = 2 ∨ k = 3 ∨ k = 4) with rfl | rfl | rfl | rfl | rfl <;> decide
    omega)
  have HW := Lib.hid hW
  have hz1 : w1.heap.size + 1 = (w1.alloc (.map #[] 0)).heap.size := by simp
  clear hW hbW H1 hz1
  go_wp2_with fail
  rw [← HW.out]
  clear HW hmm
  generalize w1.heap.size = mb at *
  go_loopw [6, 7] (fun x i wr => ∃ k : Nat, k ≤ N + 1 ∧ i = .int .i64 k ∧ Hid (DS w1 wr mb (insL [] (alls t k)) x (lvl t k) (.slice none 0 0) [])) (fun _ i _ => N + 1 - (intOf i).toNat)
  case atStart => exact ⟨0, by omega, rfl, HDS⟩
  case round =>
    obtain ⟨k, hk, rfl, HS⟩ := hrel
    clear HDS
    obtain ⟨al, cl, rfl⟩ := HS.out.lv.sl
    by_cases hlt : k ≤ N
    · have hl81 := HLv.out k (by omega)
      obtain ⟨us, hus⟩ : ∃ us, us = lvl t k := ⟨_, rfl⟩
      obtain ⟨L0, hL0⟩ : ∃ L0, L0 = insL [] (alls t k) := ⟨_, rfl⟩
      have HUS : Hid (∀ x ∈ us, x.wf ∧ x.len ≤ 60) := Lib.hid (fun x hx => by rw [hus] at hx; exact lvl_ok HT.out HL.out hx)
      have HL0 : Hid (∀ x ∈ L0, x.wf ∧ x.len ≤ 60) := Lib.hid (fun x hx => by
        rw [hL0, mem_insL] at hx
        rcases hx with hx | hx
        · cases hx
        · obtain ⟨z, _, _, hz⟩ := mem_alls.1 hx
          exact ⟨derW_wf hz HT.out, derW_len hz HL.out⟩)
      rw [← hus] at hl81 HS
      rw [← hL0] at HS
      rw [← hus]
      have HEn : Hid (insL L0 us = insL [] (alls t (k + 1)) ∧ nxtL us = lvl t (k + 1)) := Lib.hid ⟨by rw [hL0, hus]; exact (insL_app _ _ _).symm, by rw [hus]; rfl⟩
      clear hus hL0
      go_wp2
      go_loopw [8, 32] (fun y i wr => ∃ j : Nat, j ≤ us.length ∧ i = .int .i64 j ∧ Hid (DS w1 wr mb (insL L0 (us.take j)) (.slice al us.length cl) us y (nxtL (us.take j)))) (fun _ i _ => us.length - (intOf i).toNat)
      case atStart => exact ⟨0, by omega, rfl, HS⟩
      case round =>
        obtain ⟨j, hj, rfl, HS2⟩ := hrel
        clear HS
        by_cases hjl : j < us.length
        · obtain ⟨bl, ol, ax, cx, rfl, hcx, hpx⟩ := HS2.out.lv.at hjl
          have hu := HUS.out _ (List.getElem_mem hjl)
          have hst : us.take (j + 1) = us.take j ++ [us[j]] := List.take_succ_eq_append_getElem hjl
          have hL1 : ∀ x ∈ insL L0 (us.take j), x.wf ∧ x.len ≤ 60 := fun x hx => ((mem_insL _).1 hx).elim (HL0.out x) (fun h => HUS.out x (List.mem_of_mem_take h))
          have hE1 : insL L0 (us.take (j + 1)) = ins (insL L0 (us.take j)) us[j] := by rw [hst, insL_app]; rfl
          have hE2 : nxtL (us.take (j + 1)) = nxtL (us.take j) ++ nxt us[j] 3 := by rw [hst]; unfold nxtL; rw [List.flatMap_append]; show _ ++ (nxt us[j] 3 ++ []) = _; rw [List.append_nil]
          have hn2 : (nxtL (us.take j)).length ≤ 300 := by have := nxtL_len (us.take j); rw [List.length_take] at this; omega
          obtain ⟨u, hu2⟩ : ∃ u, u = us[j] := ⟨_, rfl⟩
          rw [← hu2] at hcx hpx hu hE1 hE2
          obtain ⟨L1, hLd⟩ : ∃ L1, L1 = insL L0 (us.take j) := ⟨_, rfl⟩
          obtain ⟨ns, hns⟩ : ∃ ns, ns = nxtL (us.take j) := ⟨_, rfl⟩
          rw [← hLd] at HS2 hL1 hE1
          rw [← hns] at HS2 hE2 hn2
          have HE1 := Lib.hid hE1; have HE2 := Lib.hid hE2; have HU := Lib.hid hu; have HL1 := Lib.hid hL1; have HPX := Lib.hid hpx; have HN2 := Lib.hid hn2
          clear hE1 hE2 hu hL1 hpx hst hu2 hLd hns hn2
          go_wp2_with fail
          refine (exprText_c u HU.out.1 HU.out.2 wr _ HPX.out).mono ?_
          rintro e w2 ⟨s, rfl, hb2, hs⟩
          obtain rfl := bT_eq hs.out
          have HS3 := Lib.hid (HS2.out.stay hb2)
          have HPX3 := Lib.hid (HPX.out.stay hb2)
          clear hs hb2 HS2 HPX hcx
          obtain ⟨w3, hr3, hm3, hg3⟩ := put_ins HS3.out.mp HL1.out HU.out
          have HS4 := Lib.hid (HS3.out.put hm3 hg3)
          have HPX4 := Lib.hid (HPX3.out.grown hg3 (fun c hc => by cases hc; exact mapNoPT HS3.out.mp))
          have Hr3 := Lib.hid hr3
          clear hm3 hg3 HS3 HPX3
          go_wp2
          clear Hr3
          have HW4 : Hid (ns = ns ++ nxt u 0) := Lib.hid (by rw [nxt, List.append_nil])
          go_loopw [8, 39] (fun y i wr => ∃ c : Nat, c ≤ 3 ∧ i = .int .i64 c ∧ Hid (DS w1 wr mb (ins L1 u) (.slice (some ⟨bl, ol, none⟩) us.length cl) us y (ns ++ nxt u c)) ∧ Hid (PR wr (.slice ax u.flat.length cx) u)) (fun _ i _ => 3 - (intOf i).toNat)
          case atStart => exact ⟨0, by omega, rfl, by rw [← HW4.out]; exact HS4, HPX4⟩
          case round =>
            obtain ⟨c, hc, rfl, HS5, HPX5⟩ := hrel
            clear HS4 HPX4
            by_cases hc3 : c < 3
            · have hcI : (c : Int) < 3 := by omega
              go_wp2_with fail
              refine (Derive_c u (c : Int) (by omega) HU.out.2 _ wr HPX5.out).mono ?_
              rintro e w6 ⟨v6, b6, rfl, hb6, hi6, hs6, hn6⟩
              have HS6 := Lib.hid (HS5.out.stay hb6)
              have HPX6 := Lib.hid (HPX5.out.stay hb6)
              have hnx : nxt u (c + 1) = nxt u c ++ (der1 (c : Int) u).toList := rfl
              clear hb6 HS5 HPX5
              rcases hd1 : der1 (c : Int) u with _ | u'
              · rw [hd1] at hi6 hn6 hnx
                obtain rfl : b6 = false := hi6.out
                obtain rfl := hn6.out rfl
                have HNX : Hid (ns ++ nxt u (c + 1) = ns ++ nxt u c) := Lib.hid (by rw [hnx]; simp)
                clear hd1 hi6 hs6 hn6 hnx
                go_wp2
                go_roundw
                case rel => exact ⟨c + 1, by omega, by go_num, by rw [HNX.out]; exact HS6, HPX6⟩
                case measure => simp [intOf]; omega
              · rw [hd1] at hi6 hs6 hnx
                obtain rfl : b6 = true := hi6.out
                have HP6 := Lib.hid (hs6.out u' rfl)
                have HNX : Hid (ns ++ nxt u (c + 1) = (ns ++ nxt u c) ++ [u']) := Lib.hid (by rw [hnx]; simp)
                obtain ⟨a6, c6, rfl, _⟩ := HP6.out.shape
                have hlen : (ns ++ nxt u c).length ≤ 1000 := by have := nxt_len u c; have := HN2.out; rw [List.length_append]; omega
                generalize ns ++ nxt u c = ms at *
                obtain ⟨am, cm, rfl⟩ := HS6.out.nx.sl
                obtain ⟨cs, ocs, hcs⟩ := HS6.out.nx
                have hbs := HS6.out.bel.size
                have OCS := Lib.hid ocs; have HCS := Lib.hid hcs; have HLE := Lib.hid hlen
                clear hd1 hi6 hs6 hn6 hnx ocs hcs
                go_wp2_with (at_builtin; refine appOneF elPS (by decide) rfl (.tmp 49) (.tmp 51) rfl w1.heap.size _ ms.length cs [.slice a6 u'.flat.length c6] w6 rfl rfl OCS.out rfl (by simp [Value.oneCell']) (by have := HLE.out; omega) hbs ?_; intro g7 cap7 w7 ho7 hg7 hat7; have HS7 := Lib.hid (HS6.out.app HP6.out OCS.out HCS.out rfl ho7 hg7 hat7); have HPX7 := Lib.hid ((HPX6.out.stay ((Below.refl _ _).alloc (Nat.le_refl _) _)).grown hg7 (rowNoPT (ownStay OCS.out ((Below.refl _ _).alloc (Nat.le_refl _) _)))))
                clear ho7 hg7 hat7
                go_roundw
                case rel => exact ⟨c + 1, by omega, by go_num, by rw [HNX.out]; exact HS7, HPX7⟩
                case measure => simp [intOf]; omega
            · obtain rfl : c = 3 := by omega
              have hcI : ¬ (((3 : Nat) : Int) < 3) := by omega
              go_wp2
              go_roundw
              case rel => exact ⟨j + 1, by omega, by go_num, by rw [HE1.out, HE2.out]; exact HS5⟩
              case measure => simp [intOf]; omega
        · obtain rfl : j = us.length := by omega
          rw [List.take_length, HEn.out.1, HEn.out.2] at HS2
          obtain ⟨an, cn, rfl⟩ := HS2.out.nx.sl
          go_wp2
          go_roundw
          case rel => exact ⟨k + 1, by omega, by go_num, Lib.hid HS2.out.turn⟩
          case measure => simp [intOf]; omega
    · obtain rfl : k = N + 1 := by omega
      have hlm := lenMap HS.out.mp
      have hfin : ((esD (insL [] (alls t (N + 1)))).length : Int) = cntD t (N : Int) := by rw [esD_len, HC.out]; rfl
      have HF := Lib.hid hfin
      have HBe := Lib.hid (HB1.out.trans (HS.out.bel.mono HB1.out.size))
      clear hfin
      go_wp2
      go_ret
      exact RIn.mk HBe.out HF.out
end Go.Proofs.Ytbcjhiponbfbnaa
namespace Go.Proofs.Ytbcjhiponbfbnaa
open Go.RowKit Go.ChangeMaps
set_option maxRecDepth 100000
variable {S T : Nat → Prop}
theorem DeriveCount_no (e : List (Int × Int)) (hno : ¬ ExprOk e) (n : Int) (v : Value) (w : World) (h : Pairs S w v e) : Calls Try.prog 35 #[v, .int .i64 n] w (RIn w fun m => m = -1) := by
  obtain ⟨a, cap, rfl, hnl⟩ := h.shape
  have H := Lib.hid h; have HN := Lib.hid hno; clear h hno
  go_enter Try.func35, Try.ntmps35
  go_wp2_with fail
  refine (ExprValid_c _ e w H.out).mono ?_
  rintro x w1 ⟨b1, rfl, hb1, hv⟩
  obtain rfl : b1 = false := by cases b1 with | false => rfl | true => exact absurd (hbT hv) HN.out
  clear hv
  go_wp2
  go_ret
  exact RIn.mk hb1 rfl
theorem sDeriveCount_no (e : List (Int × Int)) (he : e.length ≤ 1048576) (hno : ¬ ExprOk e) (n : Int) (v : Value) (w : World) (h : Pairs S w v e) : Calls Try.prog 36 #[v, .int .i64 n] w (RIn w fun m => m = -1) := by
  obtain ⟨a, cap, rfl, hnl⟩ := h.shape
  have H := Lib.hid h; have HN := Lib.hid hno; clear h hno
  go_enter Try.func36, Try.ntmps36
  go_wp2_with fail
  refine (sExprValid_c _ e w H.out he).mono ?_
  rintro x w1 ⟨b1, rfl, hb1, hv⟩
  obtain rfl : b1 = false := by cases b1 with | false => rfl | true => exact absurd (hbT hv) HN.out
  clear hv
  go_wp2
  go_ret
  exact RIn.mk hb1 rfl
theorem found_none {t : Re} {k : Nat} (h : derW (wdN k) t = none) : foundD t (k + 1) = foundD t k := by rw [found_step, h]; rfl
theorem found_old {t u : Re} {k : Nat} (h : derW (wdN k) t = some u) (hm : u ∈ foundD t k) : foundD t (k + 1) = foundD t k := by
  rw [found_step, h]
  show ins (foundD t k) u = _
  exact if_pos hm
theorem found_new {t u : Re} {k : Nat} (h : derW (wdN k) t = some u) (hm : u ∉ foundD t k) : foundD t (k + 1) = foundD t k ++ [u] := by
  rw [found_step, h]
  show ins (foundD t k) u = _
  exact if_neg hm
/-- Where things stand. -/
structure FS (w wr : World) (va vf : Value) (t : Re) (L : List Re) : Prop where
  bel : Below w.heap.size w wr
  e : PR wr va t
  fd : LvR wr w.heap.size vf L
section
variable {w wr w' : World} {va vf : Value} {t u : Re} {L : List Re}
theorem FS.stay (h : FS w wr va vf t L) (k : Below wr.heap.size wr w') : FS w w' va vf t L := ⟨h.bel.trans (k.mono h.bel.size), h.e.stay k, h.fd.stay k⟩
theorem FS.app {o : Obj} {g n cap : Nat} {x : Value} {cs : List Value} (h : FS w wr va vf t L) (hx : PR wr x u) (ho : wr.ownsRow w.heap.size 23 1 vf L.length cs) (hcs : ∀ i (h : i < L.length), PR wr (cs.getD i undef) L[i])
    (hn : n = L.length) (ho' : w'.ownsRow w.heap.size 23 1 (.slice (some ⟨g, 0, none⟩) (n + 1) cap) (n + 1) (cs ++ [x])) (hg : (wr.alloc o).grownBy w' vf.ownBlock) : FS w w' va (.slice (some ⟨g, 0, none⟩) (n + 1) cap) t (L ++ [u]) := by
  have k : Below wr.heap.size wr (wr.alloc o) := (Below.refl _ _).alloc (Nat.le_refl _) _
  have hA := h.stay k
  have hoA := ownStay ho k
  exact ⟨hA.bel.grown hg hA.bel.size (fun b hb => (World.ownsRow.lt ho b hb).1), hA.e.grown hg (rowNoPT hoA), hA.fd.app (hx.stay k) hg hn hoA (fun i hi => (hcs i hi).stay k) ho'⟩
end
set_option maxHeartbeats 4000000 in
theorem sDeriveCount_c (t : Re) (hl : t.len ≤ 60) (n : Int) (hn : -1 ≤ n ∧ n ≤ 4) (v : Value) (w : World) (h : PR w v t) : Calls Try.prog 36 #[v, .int .i64 n] w (RIn w fun m => m = cntD t n) := by
  obtain ⟨a, cap, rfl, hnl⟩ := h.shape
  have hok : ExprOk t.flat := (exprOk_iff _).2 ⟨t, h.1, rfl, hl⟩
  have H := Lib.hid h; have HO := Lib.hid hok; have HT := Lib.hid h.1; have HL := Lib.hid hl
  clear h hok hl hnl
  go_enter Try.func36, Try.ntmps36
  go_wp2_with fail
  refine (sExprValid_c _ t.flat w H.out.2 (by have := HL.out; unfold Re.len at this; omega)).mono ?_
  rintro x w1 ⟨b1, rfl, hb1, hv⟩
  obtain rfl : b1 = true := hv.out.2 HO.out
  have H1 := Lib.hid (H.out.stay hb1)
  have HB1 := Lib.hid hb1
  clear hb1 hv H
  go_wp2_with fail
  refine (l1In_c n 0 4 w1).mono ?_
  rintro x w2 ⟨b2, rfl, rfl, hv⟩
  cases b2
  · have HC : Hid (cntD t n = -1) := Lib.hid (if_neg (hbF hv))
    clear hv
    go_wp2
    go_ret
    exact RIn.mk HB1.out HC.out.symm
  have hn04 := hbT hv
  have HC : Hid (cntD t n = ((seenD t n.toNat).length : Int)) := Lib.hid (if_pos hn04)
  obtain ⟨N, hN⟩ : ∃ N : Nat, n = (N : Int) := ⟨n.toNat, by omega⟩
  subst hN
  have hN4 : N ≤ 4 := by omega
  rw [show ((N : Int)).toNat = N by omega, seen_found t (by omega)] at HC
  have hW121 : nW N ≤ 121 := by rcases (by omega : N = 0 ∨ N = 1 ∨ N = 2 ∨ N = 3 ∨ N = 4) with rfl | rfl | rfl | rfl | rfl <;> decide
  clear hv hn04 hn
  obtain ⟨M, hM⟩ : ∃ M, M = nW N := ⟨_, rfl⟩
  rw [← hM] at hW121 HC
  have HM := Lib.hid hM
  obtain ⟨W, hW⟩ : ∃ W, W = w1.alloc (.cells #[] 23) := ⟨_, rfl⟩
  have hbW : Below w1.heap.size w1 W := by rw [hW]; exact (Below.refl _ _).alloc (Nat.le_refl _) _
  have HFS : Hid (FS w1 W (.slice a t.flat.length cap) (.slice (some ⟨w1.heap.size, 0, none⟩) 0 0) t (foundD t 0)) := Lib.hid ⟨hbW, H1.out.stay hbW, [], by rw [hW]; exact ownLit (n := 0) [] (Nat.le_refl _) (by omega) rfl, fun i hi => absurd hi (Nat.not_lt_zero _)⟩
  have HW := Lib.hid hW
  clear hW hbW hM H1
  go_wp2_with fail
  rw [← HW.out]
  clear HW
  go_loopw [5, 6] (fun x i wr => ∃ k : Nat, k ≤ M ∧ i = .int .i64 k ∧ Hid (FS w1 wr (.slice a t.flat.length cap) x t (foundD t k))) (fun _ i _ => M + 1 - (intOf i).toNat)
  case atStart => exact ⟨0, by omega, rfl, HFS⟩
  case round =>
    obtain ⟨k, hk, rfl, HS⟩ := hrel
    clear HFS
    obtain ⟨al, cl, rfl⟩ := HS.out.fd.sl
    have hfl := found_len t k
    go_wp2_with fail
    refine (sWordAt_c k (by omega) wr).mono ?_
    rintro e w3 ⟨s, rfl, hb3, hw3, hs3, hs6⟩
    have HS3 := Lib.hid (HS.out.stay hb3)
    have hsz : s.size = (wdN k).length := by rw [← hw3.out, ltrs_len]
    have hiff := wdF_len 9 N k (by omega)
    clear HS hb3
    by_cases hgt : N < s.size
    · have hkM : k = M := by
        have : ¬ k < nW N := fun h => by have := hiff.1 h; unfold wdN at hsz; omega
        have := HM.out; omega
      have hgI : (N : Int) < (s.size : Int) := by omega
      have HF : Hid (((foundD t k).length : Int) = cntD t (N : Int)) := Lib.hid (by rw [HC.out, hkM])
      have HBe := Lib.hid (HB1.out.trans (HS3.out.bel.mono HB1.out.size))
      clear hkM hsz hiff hfl hw3 hs3
      go_wp2
      go_ret
      exact RIn.mk HBe.out HF.out
    · have hkM : k < M := by
        have := hiff.2 (by unfold wdN at hsz; omega)
        have := HM.out; omega
      have hgI : ¬ ((N : Int) < (s.size : Int)) := by omega
      have hsm : s.size ≤ 8 := by omega
      have HS8 := Lib.hid (⟨hs3.out, hsm⟩ : letS s ∧ s.size ≤ 8)
      obtain ⟨o, ho⟩ : ∃ o, o = derW (ltrs s) t := ⟨_, rfl⟩
      have HOo : Hid (derW (wdN k) t = o) := Lib.hid (by rw [ho, hw3.out])
      have HDW := Lib.hid (sDeriveWord_yes t HT.out HL.out s HS8.out _ w3 HS3.out.e.2)
      rw [← ho] at HDW
      obtain ⟨L, hL⟩ : ∃ L, L = foundD t k := ⟨_, rfl⟩
      rw [← hL] at HS3 hfl
      rw [← hL]
      have HLd := Lib.hid hL
      have HFL := Lib.hid hfl
      clear hsz hiff hw3 hs3 ho hL hfl
      go_wp2_with fail
      refine HDW.out.mono ?_
      rintro e w4 ⟨v4, b4, rfl, hb4, hi4, hs4, hn4⟩
      have HS4 := Lib.hid (HS3.out.stay hb4)
      clear HS3 HDW hb4
      rcases o with _ | u
      · obtain rfl : b4 = false := hi4.out
        obtain ⟨a4, c4, rfl, _⟩ := Pairs.shape (hn4.out rfl)
        have HE := Lib.hid (found_none HOo.out)
        clear hi4 hs4 hn4
        go_wp2_with fail
        go_loopw [11, 12] (fun x i wr => ∃ j : Nat, j ≤ L.length ∧ x = .bool false ∧ i = .int .i64 j ∧ Hid (FS w1 wr (.slice a t.flat.length cap) (.slice al L.length cl) t L)) (fun _ i _ => L.length - (intOf i).toNat)
        case atStart => exact ⟨0, by omega, rfl, rfl, HS4⟩
        case round =>
          obtain ⟨j, hj, rfl, rfl, HS5⟩ := hrel
          clear HS4
          have hL9 := HFL.out
          by_cases hlt : j < L.length
          · have hltI : (j : Int) < (L.length : Int) := by omega
            go_wp2
            go_roundw
            case rel => exact ⟨j + 1, by omega, rfl, by go_num, HS5⟩
            case measure => simp [intOf]; omega
          · obtain rfl : j = L.length := by omega
            go_wp2
            go_roundw
            case rel => exact ⟨k + 1, by omega, by go_num, by rw [HE.out, ← HLd.out]; exact HS5⟩
            case measure => simp [intOf]; omega
      · obtain rfl : b4 = true := hi4.out
        have HP4 := Lib.hid (hs4.out u rfl)
        obtain ⟨a4, c4, rfl, _⟩ := HP4.out.shape
        clear hi4 hs4 hn4
        go_wp2_with fail
        go_loopw [11, 12] (fun x i wr => ∃ (j : Nat) (fr : Bool), j ≤ L.length ∧ x = .bool fr ∧ i = .int .i64 j ∧ Hid (fr = true ↔ u ∉ L.take j) ∧ Hid (FS w1 wr (.slice a t.flat.length cap) (.slice al L.length cl) t L) ∧ Hid (PR wr (.slice a4 u.flat.length c4) u)) (fun _ i _ => L.length - (intOf i).toNat)
        case atStart => exact ⟨0, true, by omega, rfl, rfl, Lib.hid (by simp), HS4, HP4⟩
        case round =>
          obtain ⟨j, fr, hj, rfl, rfl, HFr, HS5, HP5⟩ := hrel
          clear HS4 HP4
          have hL9 := HFL.out
          by_cases hlt : j < L.length
          · have hltI : (j : Int) < (L.length : Int) := by omega
            have HTk := Lib.hid (List.take_succ_eq_append_getElem hlt)
            cases fr
            · have HFr2 : Hid (false = true ↔ u ∉ L.take (j + 1)) := Lib.hid ⟨nofun, fun h => HFr.out.2 (fun hm => h (by rw [HTk.out]; exact List.mem_append_left _ hm))⟩
              clear HFr HTk
              go_wp2
              go_roundw
              case rel => exact ⟨j + 1, false, by omega, rfl, by go_num, HFr2, HS5, HP5⟩
              case measure => simp [intOf]; omega
            · obtain ⟨bl, ol, ax, cx, rfl, hcx, hpx⟩ := HS5.out.fd.at hlt
              have HPX := Lib.hid hpx
              obtain ⟨y, hy⟩ : ∃ y, y = L[j] := ⟨_, rfl⟩
              rw [← hy] at hcx HPX HTk
              have HNm : Hid (u ∉ L.take j) := Lib.hid (HFr.out.1 rfl)
              clear hpx hy HFr
              go_wp2_with fail
              refine (l5SameR_c _ _ y u wr HPX.out HP5.out).mono ?_
              rintro e w6 ⟨b6, rfl, hb6, hv6⟩
              have HS6 := Lib.hid (HS5.out.stay hb6)
              have HP6 := Lib.hid (HP5.out.stay hb6)
              have HFr2 : Hid ((!b6) = true ↔ u ∉ L.take (j + 1)) := Lib.hid (by
                rw [HTk.out]
                simp only [Bool.not_eq_true', List.mem_append, List.mem_singleton, not_or]
                have h1 := hv6.out
                cases b6
                · exact ⟨fun _ => ⟨HNm.out, fun e => by have := h1.2 e.symm; cases this⟩, fun _ => rfl⟩
                · exact ⟨nofun, fun h => absurd (h1.1 rfl).symm h.2⟩)
              clear HS5 HP5 HTk HNm hv6 hb6 hcx HPX
              go_wp2
              go_roundw
              case rel => exact ⟨j + 1, !b6, by omega, rfl, by go_num, HFr2, HS6, HP6⟩
              case measure => simp [intOf]; omega
          · obtain rfl : j = L.length := by omega
            rw [List.take_length] at HFr
            cases fr
            · have HE : Hid (foundD t (k + 1) = L) := Lib.hid (by
                rw [found_old HOo.out (by rw [← HLd.out]; exact Classical.not_not.1 fun h => by have := HFr.out.2 h; cases this), HLd.out])
              clear HFr
              go_wp2
              go_roundw
              case rel => exact ⟨k + 1, by omega, by go_num, by rw [HE.out]; exact HS5⟩
              case measure => simp [intOf]; omega
            · have HE : Hid (foundD t (k + 1) = L ++ [u]) := Lib.hid (by rw [found_new HOo.out (by rw [← HLd.out]; exact HFr.out.1 rfl), HLd.out])
              obtain ⟨cs, ocs, hcs⟩ := HS5.out.fd
              have hbs := HS5.out.bel.size
              have OCS := Lib.hid ocs; have HCS := Lib.hid hcs
              clear ocs hcs HFr
              go_wp2_with (at_builtin; refine appOneF elPS (by decide) rfl (.tmp 59) (.tmp 61) rfl w1.heap.size _ L.length cs [.slice a4 u.flat.length c4] wr rfl rfl OCS.out rfl (by simp [Value.oneCell']) (by omega) hbs ?_; intro g7 cap7 w7 ho7 hg7 hat7; have HS7 := Lib.hid (HS5.out.app HP5.out OCS.out HCS.out rfl ho7 hg7))
              clear ho7 hg7 hat7
              go_roundw
              case rel => exact ⟨k + 1, by omega, by go_num, by rw [HE.out]; exact HS7⟩
              case measure => simp [intOf]; omega
end Go.Proofs.Ytbcjhiponbfbnaa
