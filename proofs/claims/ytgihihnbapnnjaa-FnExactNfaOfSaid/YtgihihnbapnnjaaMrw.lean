/- Maps that a call made: keys to their numbers, in the order in which they came. -/
import Derived.Test.YtgihihnbapnnjaaRow
import Derived.Maps.OwnOps
import Derived.Maps.AppendAt
import Derived.Deep.AppendLies
namespace Go.Proofs.Ytgihihnbapnnjaa
open Go.RowKit Go.ChangeMaps
set_option maxRecDepth 100000
variable {α : Type} {kv : α → Value}
/-- The entries. -/
def ents (kv : α → Value) (xs : List α) : Array MapEntry := (xs.zipIdx.map fun p => (⟨kv p.1, .int .i64 p.2, p.2⟩ : MapEntry)).toArray
theorem ents_size (xs : List α) : (ents kv xs).size = xs.length := by simp [ents]
theorem ents_get (xs : List α) (i : Nat) : (ents kv xs).toList[i]? = (xs[i]?).map fun x => ⟨kv x, .int .i64 i, i⟩ := by simp [ents]; rfl
theorem ents_push (xs : List α) (x : α) : (ents kv xs).push ⟨kv x, .int .i64 xs.length, xs.length⟩ = ents kv (xs ++ [x]) := by
  simp [ents, List.zipIdx_append]
/-- Block b is the map of the xs. -/
def MRow (kv : α → Value) (w : World) (b : Nat) (xs : List α) : Prop := w.heap[b]? = some (.map (ents kv xs) xs.length)
theorem MRow.lt {w : World} {b : Nat} {xs : List α} (h : MRow kv w b xs) : b < w.heap.size := (Array.getElem?_eq_some_iff.1 h).1
theorem MRow.stay {w w' : World} {b : Nat} {xs : List α} (h : MRow kv w b xs) (hb : Below w.heap.size w w') : MRow kv w' b xs := blkBel hb h
theorem MRow.grow {w w' : World} {row : Option Nat} {b : Nat} {xs : List α} (h : MRow kv w b xs) (hg : w.grownBy w' row) (hne : some b ≠ row) : MRow kv w' b xs := blkGrow hg h hne
theorem MRow.far {w : World} {b c o : Nat} {xs : List α} (h : MRow kv w b xs) (hne : b ≠ c) (u : Value) : MRow kv (w.setCell ⟨c, o, none⟩ u) b xs := blkSet h hne
theorem MRow.made (w : World) : MRow kv (w.alloc (.map #[] 0)) w.heap.size [] := (MapKept.heap_alloc w _).1
/-- Map type t: keys k, numbers. The keys of which p holds can be looked up. -/
structure KeyA (t k e : TypeId) (kv : α → Value) (p : α → Prop) : Prop where
  ul : Try.prog.underlying t = some (.map k e)
  law : Maps.Keyed Try.prog k
  lit : ∀ x, p x → ∃ l, keyOf Try.prog k (kv x) = some l
  inj : ∀ x y, kv x = kv y → x = y
  zero : ∀ w, (zeroValue e).run Try.prog w = .ok (.int .i64 0) w
theorem put_row {w : World} {b : Nat} {xs : List α} {x : α} (h : MRow kv w b xs) : MRow kv (setBlock w b (.map (ents kv (xs ++ [x])) (xs.length + 1))) b (xs ++ [x]) := by
  unfold MRow
  rw [heap_setBlock_same h]
  simp
theorem put_grown {w : World} {b : Nat} {xs : List α} (h : MRow kv w b xs) (ob : Obj) : w.grownBy (setBlock w b ob) (some b) :=
  ⟨rfl, rfl, rfl, by simp [setBlock], fun i _ hi => heap_setBlock_other h _ (fun e => hi (by rw [e]))⟩
variable [DecidableEq α] {t k e : TypeId} {p : α → Prop} {w : World} {b : Nat} {xs : List α} {x : α}
theorem KeyA.find (E : KeyA t k e kv p) (hp : ∀ y ∈ xs, p y) (hx : p x) (hn : xs.Nodup) :
    (x ∉ xs ∧ (Instr.findKey k (kv x) (ents kv xs).toList).run Try.prog w = .ok none w) ∨
    (x ∈ xs ∧ (Instr.findKey k (kv x) (ents kv xs).toList).run Try.prog w = .ok (some (xs.idxOf x, .int .i64 (xs.idxOf x))) w) := by
  obtain ⟨l, hl⟩ := E.lit x hx
  have mem : ∀ e0 ∈ (ents kv xs).toList, ∃ i, ∃ h : i < xs.length, e0 = ⟨kv xs[i], .int .i64 i, i⟩ := by
    intro e0 he
    obtain ⟨i, hi⟩ := List.mem_iff_getElem?.1 he
    rw [ents_get] at hi
    rcases Nat.lt_or_ge i xs.length with h | h
    · rw [List.getElem?_eq_getElem h] at hi
      simp only [Option.map_some, Option.some.injEq] at hi
      exact ⟨i, h, hi.symm⟩
    · rw [List.getElem?_eq_none h] at hi
      simp at hi
  rcases E.law.find w hl (ents kv xs).toList (fun e0 he => by
    obtain ⟨i, h, rfl⟩ := mem e0 he
    exact E.lit _ (hp _ (List.getElem_mem h))) with ⟨h1, h2⟩ | ⟨j, e0, h1, h2, h3⟩
  · refine .inl ⟨fun hm => ?_, h1⟩
    obtain ⟨i, hi, rfl⟩ := List.getElem_of_mem hm
    have := ents_get (kv := kv) xs i
    rw [List.getElem?_eq_getElem hi] at this
    exact h2 _ (List.mem_of_getElem? this) rfl
  · rw [ents_get] at h2
    rcases Nat.lt_or_ge j xs.length with h | h
    · rw [List.getElem?_eq_getElem h] at h2
      simp only [Option.map_some, Option.some.injEq] at h2
      subst h2
      have hxj : xs[j] = x := E.inj _ _ h3
      have hj : xs.idxOf x = j := by rw [← hxj]; exact hn.idxOf_getElem j h
      refine .inr ⟨by rw [← hxj]; exact List.getElem_mem h, ?_⟩
      rw [h1, hj]
    · rw [List.getElem?_eq_none h] at h2
      simp at h2
theorem run_look (E : KeyA t k e kv p) (h : MRow kv w b xs) (hp : ∀ y ∈ xs, p y) (hx : p x) (hn : xs.Nodup) (c : Bool) :
    (x ∉ xs ∧ (Instr.lookup t (.map (some b)) (kv x) c).run Try.prog w = .ok (if c then .tuple #[.int .i64 0, .bool false] else .int .i64 0) w) ∨
    (x ∈ xs ∧ (Instr.lookup t (.map (some b)) (kv x) c).run Try.prog w = .ok (if c then .tuple #[.int .i64 (xs.idxOf x), .bool true] else .int .i64 (xs.idxOf x)) w) := by
  obtain ⟨l, hl⟩ := E.lit x hx
  rcases E.find (w := w) hp hx hn with ⟨h1, h2⟩ | ⟨h1, h2⟩
  · refine .inl ⟨h1, ?_⟩
    simp [Instr.lookup, run_underlying E.ul, MapKept.run_getObj_map h, E.law.check w _ hl, h2, E.zero, Result.andThen]
  · refine .inr ⟨h1, ?_⟩
    simp [Instr.lookup, run_underlying E.ul, MapKept.run_getObj_map h, E.law.check w _ hl, h2, Result.andThen]
theorem run_put (E : KeyA t k e kv p) (h : MRow kv w b xs) (hp : ∀ y ∈ xs, p y) (hx : p x) (hn : xs.Nodup) (hm : x ∉ xs) :
    (Instr.mapUpdate t (.map (some b)) (kv x) (.int .i64 xs.length)).run Try.prog w = .ok () (setBlock w b (.map (ents kv (xs ++ [x])) (xs.length + 1))) := by
  obtain ⟨l, hl⟩ := E.lit x hx
  rcases E.find (w := w) hp hx hn with ⟨h1, h2⟩ | ⟨h1, h2⟩
  · simp [Instr.mapUpdate, run_underlying E.ul, MapKept.run_getObj_map h, E.law.check w false hl, h2, MapKept.run_setObj_map _ h, Result.andThen, setBlock, ents_push]
  · exact absurd h1 hm
section
variable {ops : Array Oper} {rest : List Oper} {o : Oper} {a : Act} {Q : Exit → Act → World → Prop}
theorem mapHas (E : KeyA t k e kv p) (hg : o.guard = none) (m i : Operand) (hop : o.op = Op.lookup t m i true) (hm : a.eval m = .map (some b)) (hi : a.eval i = kv x)
    (h : MRow kv w b xs) (hp : ∀ y ∈ xs, p y) (hx : p x) (hn : xs.Nodup)
    (hK : ∀ (c : Int) (v : Bool), Hid ((v = true ∧ x ∈ xs ∧ c = xs.idxOf x) ∨ (v = false ∧ x ∉ xs)) → wpList Try.prog ops Q rest (a.put o.dst (.tuple #[.int .i64 c, .bool v])) w) : wpList Try.prog ops Q (o :: rest) a w := by
  refine wpList_plain hg fun K' hK' => ?_
  rcases run_look E h hp hx hn true with ⟨h1, h2⟩ | ⟨h1, h2⟩
  · unfold Oper.wp
    simp [execOp, hop, hm, hi, h2, Result.andThen]
    exact hK' _ _ (hK 0 false (.inr ⟨rfl, h1⟩))
  · unfold Oper.wp
    simp [execOp, hop, hm, hi, h2, Result.andThen]
    exact hK' _ _ (hK _ true (.inl ⟨rfl, h1, rfl⟩))
theorem mapGet (E : KeyA t k e kv p) (hg : o.guard = none) (m i : Operand) (hop : o.op = Op.lookup t m i false) (hm : a.eval m = .map (some b)) (hi : a.eval i = kv x)
    (h : MRow kv w b xs) (hp : ∀ y ∈ xs, p y) (hx : p x) (hn : xs.Nodup) (hmem : x ∈ xs)
    (hK : wpList Try.prog ops Q rest (a.put o.dst (.int .i64 (xs.idxOf x))) w) : wpList Try.prog ops Q (o :: rest) a w := by
  refine wpList_plain hg fun K' hK' => ?_
  rcases run_look E h hp hx hn false with ⟨h1, h2⟩ | ⟨h1, h2⟩
  · exact absurd hmem h1
  · unfold Oper.wp
    simp [execOp, hop, hm, hi, h2, Result.andThen]
    exact hK' _ _ hK
theorem mapPut (E : KeyA t k e kv p) (hg : o.guard = none) (m i v : Operand) (hop : o.op = Op.mapUpdate t m i v ∨ o.op = Op.insert t m i v) (hm : a.eval m = .map (some b)) (hi : a.eval i = kv x) (hv : a.eval v = .int .i64 xs.length)
    (h : MRow kv w b xs) (hp : ∀ y ∈ xs, p y) (hx : p x) (hn : xs.Nodup) (hmem : x ∉ xs)
    (hK : ∀ w', Hid (MRow kv w' b (xs ++ [x])) → w.grownBy w' (some b) → wpList Try.prog ops Q rest (a.put o.dst undef) w') : wpList Try.prog ops Q (o :: rest) a w := by
  refine wpList_plain hg fun K' hK' => ?_
  have h2 := run_put E h hp hx hn hmem
  have h3 := hK _ (put_row (x := x) h) (put_grown h _)
  rcases hop with hop | hop
  · unfold Oper.wp
    simp [execOp, hop, hm, hi, hv, h2, Result.andThen]
    exact hK' _ _ h3
  · unfold Oper.wp
    simp [execOp, hop, hm, hi, hv, h2, Result.andThen]
    exact hK' _ _ h3
/-- append of one element, with the place. -/
theorem appAt {t e : TypeId} {sz bytes : Nat} (E : ElemT t e sz bytes) (hby : bytes ≤ 100) (hgd : o.guard = none) (s x : Operand)
    (ho : o.op = .call { callee := .builtin .append, args := #[s, x], argTypes := #[t, t] })
    (base : Nat) (v : Value) (n : Nat) (xs news : List Value) (w : World) {B : Nat} (hB : B = w.heap.size) (hs : a.eval s = v) (hx : a.eval x = .slice (some ⟨B, 0, none⟩) 1 1)
    (hown : w.ownsRow base e sz v n xs) (hl : news.length = sz) (h1 : ∀ u ∈ news, u.oneCell' = true) (hn : n ≤ 1000000000) (hbase : base ≤ w.heap.size)
    (h : ∀ v' w', Hid (w'.ownsRow base e sz v' (n + 1) (xs ++ news)) → w.grownBy w' v.ownBlock → Hid (v'.ownBlock = v.ownBlock ∨ v'.ownBlock = some (w.heap.size + 1)) → wpList Try.prog ops Q rest (a.put o.dst v') w') :
    wpList Try.prog ops Q (o :: rest) a (w.alloc (.cells news.toArray e)) := by
  subst hB
  obtain ⟨i, z, hi, hz, h2, h3, h4⟩ := E.inf
  refine wpList_append_own_at (P := Try.prog) _ hgd s x t ho base e i z sz bytes E.ul hi hz h2 h3 h4 E.pos v n xs hs (hown.alloc _) ⟨w.heap.size, 0, none⟩ 1 1 news hx (by omega) ?_ h1 ?_ ?_ ?_ ?_
  · intro j u hu
    rw [Addr.add_lit, Nat.zero_add]
    rw [World.cell?_alloc_mark]
    simpa using hu
  · unfold maxLen; omega
  · have : (n + 1) * bytes ≤ 1000000001 * 100 := Nat.mul_le_mul (by omega) hby
    omega
  · simp; omega
  · intro v' w' k1 k2 k3 k4
    exact h v' w' k1 (grownTrans (grownBel ((Below.refl _ _).alloc (Nat.le_refl _) _)) k2) (by rw [World.size_alloc] at k4; exact k4)
end
/-- append of one element, as a step of a region that draws. -/
theorem stepApp {t e : TypeId} {sz bytes : Nat} (E : ElemT t e sz bytes) (hby : bytes ≤ 100) {ops : Array Oper} {o : Oper} {a : Act} {K : Act → World → Prop} {Q : Exit → Act → World → Prop} {E' : Prop} (hgd : o.guard = none) (s x : Operand)
    (ho : o.op = .call { callee := .builtin .append, args := #[s, x], argTypes := #[t, t] })
    (base : Nat) (v : Value) (n : Nat) (xs news : List Value) (w : World) (B : Nat) (hs : a.eval s = v) (hx : a.eval x = .slice (some ⟨B, 0, none⟩) 1 1)
    (hown : w.ownsRow base e sz v n xs) (hnew : w.heap[B]? = some (.cells news.toArray e (0, 0))) (hl : news.length = sz) (h1 : ∀ u ∈ news, u.oneCell' = true) (hn : n ≤ 1000000000) (hbase : base ≤ w.heap.size)
    (h : ∀ g cap w', Hid (w'.ownsRow base e sz (.slice (some ⟨g, 0, none⟩) (n + 1) cap) (n + 1) (xs ++ news)) → w.grownBy w' v.ownBlock → K (a.put o.dst (.slice (some ⟨g, 0, none⟩) (n + 1) cap)) w') :
    if Region.wanted o (yielded ops a.tmps) = true then Oper.wp Try.prog o a w K Q else E' := by
  obtain ⟨i, z, hi, hz, h2, h3, h4⟩ := E.inf
  refine step_append_lies (P := Try.prog) w hgd s x t ho base e i z sz bytes E.ul hi hz h2 h3 h4 E.pos v n xs hs hown ⟨B, 0, none⟩ 1 1 news hx (by omega) ?_ h1 (by omega) ?_ ?_ hbase _ rfl ?_
  · intro j u hu
    rw [Addr.add_lit, Nat.zero_add, cell_of_row w B j _ _ _ hnew]
    simpa using hu
  · unfold maxLen; omega
  · have : (n + 1) * bytes ≤ 1000000001 * 100 := Nat.mul_le_mul (by omega) hby
    omega
  · intro g cap w' k1 k2 _ _
    exact h g cap w' k1 k2
theorem kaInt : KeyA 162 3 3 (fun s : Nat => .int .i64 s) (· ≤ 1000000000) where
  ul := Try.underlying162
  law := Maps.int_keyed Try.underlying3
  lit := fun x hx => ⟨_, Maps.keyOf_int_mk Try.underlying3 (by have h1 : IntKind.i64.min = -9223372036854775808 := rfl; have h2 : IntKind.i64.max = 9223372036854775807 := rfl; simp [Lit.wf]; omega)⟩
  inj := fun x y h => by injection h with _ h; omega
  zero := fun w => by kernel_rfl
/-- What is at block c is not the list's. -/
theorem own_far {w : World} {base : Nat} {e : TypeId} {sz : Nat} {v : Value} {n : Nat} {xs : List Value} (h : w.ownsRow base e sz v n xs) {c : Nat} {ob : Obj} (hc : w.heap[c]? = some ob) (hne : ∀ cs q, ob ≠ .cells cs e q) : some c ≠ v.ownBlock := by
  rcases h.2 with ⟨rfl, _⟩ | ⟨g, cap, cur, rfl, hb, hg, _⟩
  · simp [Value.ownBlock]
  · intro he
    simp [Value.ownBlock] at he
    subst he
    rw [hg] at hc
    injection hc with hc
    exact hne _ _ hc.symm
theorem own_two {w : World} {base base' : Nat} {e e' : TypeId} {sz sz' : Nat} {v v' : Value} {n n' : Nat} {xs xs' : List Value} (h : w.ownsRow base e sz v n xs) (h' : w.ownsRow base' e' sz' v' n' xs') (hne : e ≠ e') : v.ownBlock = none ∨ v.ownBlock ≠ v'.ownBlock := by
  rcases h.2 with ⟨rfl, _⟩ | ⟨g, cap, cur, rfl, hb, hg, _⟩
  · exact .inl rfl
  · exact .inr (own_far h' (c := g) hg (fun cs q he => by injection he with _ he; exact hne he))
theorem own_ge {w : World} {base : Nat} {e : TypeId} {sz : Nat} {v : Value} {n : Nat} {xs : List Value} (h : w.ownsRow base e sz v n xs) : ∀ b, v.ownBlock = some b → base ≤ b ∧ b < w.heap.size := by
  rcases h.2 with ⟨rfl, _⟩ | ⟨g, cap, cur, rfl, hb, hg, _⟩
  · simp [Value.ownBlock]
  · intro b hb'
    simp [Value.ownBlock] at hb'
    subst hb'
    exact ⟨hb, (Array.getElem?_eq_some_iff.1 hg).1⟩
/-- Growing at a block that was made leaves what was there. -/
theorem Below.grew {B : Nat} {w0 w w' : World} {row : Option Nat} (h : Below B w0 w) (hg : w.grownBy w' row) (hr : ∀ b, row = some b → B ≤ b) (hB : B ≤ w.heap.size) : Below B w0 w' := h.grown hg hB hr
end Go.Proofs.Ytgihihnbapnnjaa
