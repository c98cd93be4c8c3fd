/- Rows: blocks that a call made, known whole: ints, bools, strings; made, read, written. Lengths of at most 10^9. -/
import Derived.Test.YtgihihnbapnnjaaAp2
namespace Go.Proofs.Ytgihihnbapnnjaa
open Go.RowKit
set_option maxRecDepth 100000

/-- Block b is just the xs, a cell each, of type e, and may be written. -/
def Row {α : Type} (f : α → Value) (e : TypeId) (w : World) (b : Nat) (xs : List α) : Prop := w.heap[b]? = some (.cells (xs.map f).toArray e (0, 0))
section
variable {α : Type} {f : α → Value} {e : TypeId} {w w' : World} {b : Nat} {xs : List α}
theorem Row.lt (h : Row f e w b xs) : b < w.heap.size := (Array.getElem?_eq_some_iff.1 h).1
theorem Row.cell (h : Row f e w b xs) {i : Nat} (hi : i < xs.length) : w.cell? ⟨b, i, none⟩ = some (f xs[i]) := by
  rw [cell_of_row w b i _ e (0, 0) h]
  simp [hi]
theorem Row.fz (h : Row f e w b xs) (o : Nat) : w.frozen? ⟨b, o, none⟩ = false := by
  unfold Row at h
  simp [World.frozen?, h]
theorem Row.set (h : Row f e w b xs) (i : Nat) (x : α) : Row f e (w.setCell ⟨b, i, none⟩ (f x)) b (xs.set i x) := by
  unfold Row at h ⊢
  rw [heap_set h]
  simp [List.map_set]
theorem Row.far (h : Row f e w b xs) {c o : Nat} (hne : b ≠ c) (u : Value) : Row f e (w.setCell ⟨c, o, none⟩ u) b xs := blkSet h hne
theorem Row.stay (h : Row f e w b xs) (hb : Below w.heap.size w w') : Row f e w' b xs := blkBel hb h
theorem Row.grow (h : Row f e w b xs) {row : Option Nat} (hg : w.grownBy w' row) (hne : some b ≠ row) : Row f e w' b xs := blkGrow hg h hne
theorem Row.drew (h : Row f e w b xs) : Row f e w.drew b xs := h
theorem Row.fl (h : Row f e w b xs) {n cap : Nat} (hn : n = xs.length) (hc : n ≤ cap) (hm : n ≤ maxLen) : Fl (· = b) w (.slice (some ⟨b, 0, none⟩) n cap) xs.length (xs.map f) := by
  subst hn
  refine ⟨_, cap, rfl, ⟨hm, hc, by simp⟩, fun i hi => ⟨b, 0, rfl, rfl, ?_⟩⟩
  rw [Nat.zero_add, Row.cell h (by simpa using hi)]
  simp
theorem Row.flW (h : Row f e w b xs) {n cap : Nat} (hn : n = xs.length) (hc : n ≤ cap) (hm : n ≤ maxLen) : FlW (· = b) w (.slice (some ⟨b, 0, none⟩) n cap) xs.length (xs.map f) := by
  subst hn
  refine ⟨_, cap, rfl, ⟨hm, hc, by simp⟩, fun i hi => ⟨b, 0, rfl, rfl, ?_, fun o => h.fz o⟩⟩
  rw [Nat.zero_add, Row.cell h (by simpa using hi)]
  simp
theorem Row.ne {β : Type} {g : β → Value} {e' : TypeId} {c : Nat} {ys : List β} (h : Row f e w b xs) (h' : Row g e' w c ys) (hne : e ≠ e') : b ≠ c := by
  rintro rfl
  unfold Row at h h'
  rw [h] at h'
  injection h' with h'
  injection h' with _ ht
  exact hne ht
end
/-- Slice type t has elements e of one cell, whose zero is z. -/
structure ElemZ (t e : TypeId) (z : Value) (bytes : Nat) : Prop where
  ul : Try.prog.underlying t = some (.slice e)
  inf : (Try.prog.info? e).map (fun i => (i.zero, i.size, i.bytes)) = some (some z, 1, bytes)
  one : z.cells = #[z]
theorem makeRow {α : Type} {f : α → Value} {t e : TypeId} {x : α} {bytes : Nat} (E : ElemZ t e (f x) bytes) (hby : bytes ≤ 100) {ops : Array Oper} {rest : List Oper} {o : Oper} {a : Act} {Q : Exit → Act → World → Prop} (hgd : o.guard = none) (l c : Operand)
    (ho : o.op = .makeSlice t l c) (n : Nat) (w : World) (hl : a.eval l = .int .i64 n) (hc : a.eval c = .int .i64 n) (hn : n ≤ 1000000000)
    (h : ∀ w', Hid (Row f e w' w.heap.size (List.replicate n x)) → Below w.heap.size w w' → Hid (w'.heap.size = w.heap.size + 1) → wpList Try.prog ops Q rest (a.put o.dst (.slice (some ⟨w.heap.size, 0, none⟩) n n)) w') :
    wpList Try.prog ops Q (o :: rest) a w := by
  have hi := E.inf
  cases hi' : Try.prog.info? e with
  | none => rw [hi'] at hi; simp at hi
  | some i =>
    rw [hi'] at hi
    simp at hi
    obtain ⟨h1, h2, h3⟩ := hi
    have hr := run_make (P := Try.prog) w t e i (f x) E.ul hi' h1 .i64 .i64 n n (by omega) (by omega) (by
      have : i.bytes * n ≤ 100 * 1000000000 := Nat.mul_le_mul (by omega) hn
      have h' : ((i.bytes * n : Nat) : Int) ≤ 281474976710656 := by omega
      rwa [Int.natCast_mul] at h') (by omega)
    simp only [Int.toNat_natCast] at hr
    refine wpList_plain hgd fun K hK' => ?_
    unfold Oper.wp
    simp [execOp, ho, hl, hc, hr, Result.andThen]
    refine hK' _ _ (h _ ?_ ((Below.refl _ _).alloc (Nat.le_refl _) _) (by simp [Hid]))
    show Row f e _ w.heap.size _
    unfold Row
    rw [heap_alloc_new]
    congr 2
    apply Array.ext'
    have := toList_madeCells_one (f x) n
    rw [E.one, h2, Nat.mul_one]
    rw [this]
    simp
/-- The first k are turned to F. -/
def part {α : Type} (n k : Nat) (F : Nat → α) (z : α) : List α := (List.range n).map fun s => if s < k then F s else z
theorem part_len {α : Type} (n k : Nat) (F : Nat → α) (z : α) : (part n k F z).length = n := by simp [part]
theorem part_zero {α : Type} (n : Nat) (F : Nat → α) (z : α) : part n 0 F z = List.replicate n z := by
  unfold part
  apply List.ext_getElem <;> simp
theorem part_all {α : Type} (n : Nat) (F : Nat → α) (z : α) : part n n F z = (List.range n).map F := by
  unfold part
  apply List.map_congr_left
  intro s hs
  rw [if_pos (List.mem_range.1 hs)]
theorem part_get {α : Type} {n k : Nat} {F : Nat → α} {z : α} {i : Nat} (h : i < n) : (part n k F z)[i]'(by rw [part_len]; exact h) = if i < k then F i else z := by simp [part]
theorem part_set {α : Type} {n k : Nat} (F : Nat → α) (z : α) (h : k < n) : (part n k F z).set k (F k) = part n (k + 1) F z := by
  apply List.ext_getElem
  · simp [part]
  · intro i h1 h2
    simp only [part_len, List.length_set] at h1
    rw [List.getElem_set]
    simp only [part, List.getElem_map, List.getElem_range]
    by_cases e : k = i
    · subst e; simp
    · rw [if_neg e]
      by_cases h3 : i < k
      · rw [if_pos h3, if_pos (by omega)]
      · rw [if_neg h3, if_neg (by omega)]
theorem part_keep {α : Type} {n k : Nat} (F : Nat → α) (z : α) (h : F k = z) : part n (k + 1) F z = part n k F z := by
  unfold part
  apply List.map_congr_left
  intro s _
  by_cases e : s = k
  · subst e; simp [h]
  · by_cases h3 : s < k
    · rw [if_pos h3, if_pos (by omega)]
    · rw [if_neg h3, if_neg (by omega)]
theorem ezInt : ElemZ 24 3 (.int .i64 0) 8 := ⟨Try.underlying24, by kernel_rfl, rfl⟩
/-- A row of ints. -/
abbrev RowI (w : World) (b : Nat) (xs : List Int) : Prop := Row (.int .i64 ·) 3 w b xs
theorem ezBool : ElemZ 57 4 (.bool false) 1 := ⟨Try.underlying57, by kernel_rfl, rfl⟩
/-- A row of bools. -/
abbrev RowB (w : World) (b : Nat) (xs : List Bool) : Prop := Row .bool 4 w b xs
theorem ezStr : ElemZ 33 9 (.string ByteArray.empty) 16 := ⟨Try.underlying33, by kernel_rfl, rfl⟩
/-- A row of strings. -/
abbrev RowS (w : World) (b : Nat) (xs : List ByteArray) : Prop := Row .string 9 w b xs
end Go.Proofs.Ytgihihnbapnnjaa
