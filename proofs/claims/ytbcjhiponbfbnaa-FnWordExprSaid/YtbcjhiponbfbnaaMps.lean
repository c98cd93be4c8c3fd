/- Maps known whole: entries put and read. -/
import Derived.Maps.OwnOps
import Derived.Test.YtbcjhiponbfbnaaGB
set_option linter.unusedSimpArgs false
set_option linter.unusedVariables false
set_option linter.unusedSectionVars false
namespace Go.Proofs.Ytbcjhiponbfbnaa
open Go.RowKit Go.ChangeMaps
set_option maxRecDepth 100000
/-- The entries, in order of coming. -/
def EN (es : List (Value × Value)) : Array MapEntry := (es.zipIdx.map fun p => (⟨p.1.1, p.1.2, p.2⟩ : MapEntry)).toArray
theorem EN_get (es : List (Value × Value)) (i : Nat) : (EN es).toList[i]? = (es[i]?).map fun x => ⟨x.1, x.2, i⟩ := by simp [EN]; rfl
theorem EN_push (es : List (Value × Value)) (x : Value × Value) : (EN es).push ⟨x.1, x.2, es.length⟩ = EN (es ++ [x]) := by simp [EN, List.zipIdx_append]
theorem EN_size (es : List (Value × Value)) : (EN es).size = es.length := by simp [EN]
/-- Block b is the map with these entries. -/
def MEN (w : World) (b : Nat) (es : List (Value × Value)) : Prop := w.heap[b]? = some (.map (EN es) es.length)
theorem MEN.stay {w w' : World} {b : Nat} {es : List (Value × Value)} (h : MEN w b es) (hb : Below w.heap.size w w') : MEN w' b es := blkBel hb h
theorem MEN.made (w : World) : MEN (w.alloc (.map #[] 0)) w.heap.size [] := blkNew w (.map #[] 0) rfl
theorem MEN.set {w : World} {b : Nat} {es es' : List (Value × Value)} (h : MEN w b es) : MEN (setBlock w b (.map (EN es') es'.length)) b es' := by
  unfold MEN
  rw [heap_setBlock_same h]
variable {t k e : TypeId} {w : World} {b : Nat} {es : List (Value × Value)} {key v : Value}
/-- Every key reads. -/
def KeysIn (k : TypeId) (es : List (Value × Value)) : Prop := ∀ p ∈ es, ∃ l, keyOf Try.prog k p.1 = some l
theorem mem_EN {x : MapEntry} (h : x ∈ (EN es).toList) : ∃ i, ∃ h : i < es.length, x = ⟨es[i].1, es[i].2, i⟩ := by
  obtain ⟨i, hi⟩ := List.mem_iff_getElem?.1 h
  rw [EN_get] at hi
  rcases Nat.lt_or_ge i es.length with h | h
  · rw [List.getElem?_eq_getElem h] at hi
    simp only [Option.map_some, Option.some.injEq] at hi
    exact ⟨i, h, hi.symm⟩
  · rw [List.getElem?_eq_none h] at hi
    simp at hi
theorem mFind (K : Maps.Keyed Try.prog k) (hk : ∃ l, keyOf Try.prog k key = some l) (hes : KeysIn k es) (w : World) :
    ((Instr.findKey k key (EN es).toList).run Try.prog w = .ok none w ∧ ∀ p ∈ es, p.1 ≠ key) ∨
    ∃ j, ∃ h : j < es.length, (Instr.findKey k key (EN es).toList).run Try.prog w = .ok (some (j, es[j].2)) w ∧ es[j].1 = key := by
  obtain ⟨l, hl⟩ := hk
  rcases K.find w hl (EN es).toList (fun x hx => by
    obtain ⟨i, h, rfl⟩ := mem_EN hx
    exact hes _ (List.getElem_mem h)) with ⟨h1, h2⟩ | ⟨j, e0, h1, h2, h3⟩
  · refine .inl ⟨h1, fun p hp => ?_⟩
    obtain ⟨i, hi, rfl⟩ := List.getElem_of_mem hp
    have := EN_get es i
    rw [List.getElem?_eq_getElem hi] at this
    exact h2 _ (List.mem_of_getElem? this)
  · rw [EN_get] at h2
    rcases Nat.lt_or_ge j es.length with h | h
    · rw [List.getElem?_eq_getElem h] at h2
      simp only [Option.map_some, Option.some.injEq] at h2
      subst h2
      exact .inr ⟨j, h, h1, h3⟩
    · rw [List.getElem?_eq_none h] at h2
      simp at h2
/-- A new key. -/
theorem mNew (K : Maps.Keyed Try.prog k) (ul : Try.prog.underlying t = some (.map k e)) (h : MEN w b es) (hk : ∃ l, keyOf Try.prog k key = some l) (hes : KeysIn k es) (hn : ∀ p ∈ es, p.1 ≠ key) :
    (Instr.mapUpdate t (.map (some b)) key v).run Try.prog w = .ok () (setBlock w b (.map (EN (es ++ [(key, v)])) (es.length + 1))) := by
  have hk2 := hk
  obtain ⟨l, hl⟩ := hk2
  rcases mFind K hk hes w with ⟨h1, h2⟩ | ⟨j, hj, h1, h2⟩
  · have := EN_push es (key, v)
    simp [Instr.mapUpdate, run_underlying ul, MapKept.run_getObj_map h, K.check w false hl, h1, MapKept.run_setObj_map _ h, Result.andThen, setBlock, this]
  · exact absurd h2 (hn _ (List.getElem_mem hj))
theorem EN_same (j : Nat) (hj : j < es.length) (hk : es[j].1 = key) (hv : es[j].2 = v) : ((EN es).modify j fun x => { key := key, val := v, born := x.born }) = EN es := by
  apply Array.ext_getElem?
  intro i
  rw [Array.getElem?_modify]
  split
  · rename_i h; subst h
    have h1 := EN_get es j
    rw [List.getElem?_eq_getElem hj] at h1
    rw [← Array.getElem?_toList, h1]
    subst hk hv
    rfl
  · rfl
/-- A key that is there already, with the same value. -/
theorem mOld (K : Maps.Keyed Try.prog k) (ul : Try.prog.underlying t = some (.map k e)) (h : MEN w b es) (hk : ∃ l, keyOf Try.prog k key = some l) (hes : KeysIn k es) (hm : ∃ p ∈ es, p.1 = key) (hv : ∀ p ∈ es, p.2 = v) :
    (Instr.mapUpdate t (.map (some b)) key v).run Try.prog w = .ok () (setBlock w b (.map (EN es) es.length)) := by
  have hk2 := hk
  obtain ⟨l, hl⟩ := hk2
  rcases mFind K hk hes w with ⟨h1, h2⟩ | ⟨j, hj, h1, h2⟩
  · obtain ⟨p, hp, he⟩ := hm; exact absurd he (h2 p hp)
  · have h3 := EN_same j hj h2 (hv _ (List.getElem_mem hj))
    have h4 := EN_get es j
    rw [List.getElem?_eq_getElem hj, Array.getElem?_toList] at h4
    simp [Instr.mapUpdate, run_underlying ul, MapKept.run_getObj_map h, K.check w false hl, h1, h4, h2, K.stays w hl, MapKept.run_setObj_map _ h, Result.andThen, setBlock, h3]
/-- A key that is there is read. -/
theorem mGet (K : Maps.Keyed Try.prog k) (ul : Try.prog.underlying t = some (.map k e)) (hz : ∃ z, (zeroValue e).run Try.prog w = .ok z w) (h : MEN w b es) (hk : ∃ l, keyOf Try.prog k key = some l) (hes : KeysIn k es) (hm : (key, v) ∈ es) (hu : ∀ p ∈ es, p.1 = key → p.2 = v) :
    (Instr.lookup t (.map (some b)) key false).run Try.prog w = .ok v w := by
  have hk2 := hk
  obtain ⟨l, hl⟩ := hk2
  obtain ⟨z, hz⟩ := hz
  rcases mFind K hk hes w with ⟨h1, h2⟩ | ⟨j, hj, h1, h2⟩
  · exact absurd rfl (h2 _ hm)
  · have h3 := hu _ (List.getElem_mem hj) h2
    rw [h3] at h1
    simp [Instr.lookup, run_underlying ul, MapKept.run_getObj_map h, K.check w _ hl, h1, hz, Result.andThen]
theorem MEN.grown {b : Nat} (h : MEN w b es) (ob : Obj) : w.grownBy (setBlock w b ob) (some b) :=
  ⟨rfl, rfl, rfl, by simp [setBlock], fun i _ hi => heap_setBlock_other h _ (fun e => hi (by rw [e]))⟩
end Go.Proofs.Ytbcjhiponbfbnaa
