/- Lists that a call made, of elements of two or three numbers: append of one element. Lengths of at most 10^9. -/
import Derived.Test.YtgihihnbapnnjaaApi
namespace Go.Proofs.Ytgihihnbapnnjaa
open Go.RowKit
set_option maxRecDepth 100000

theorem blkGrow {w w' : World} {row : Option Nat} {b : Nat} {ob : Obj} (hg : w.grownBy w' row) (h : w.heap[b]? = some ob) (hne : some b ≠ row) : w'.heap[b]? = some ob := by
  rw [hg.block b (Array.getElem?_eq_some_iff.1 h).1 hne]; exact h
/-- A list of pairs of numbers that the call made; e is the element's type. -/
def Own2 (w : World) (base : Nat) (e : TypeId) (v : Value) (xs : List (Int × Int)) : Prop := w.ownsRow base e 2 v xs.length (cells2 xs)
theorem Own2.rd {w : World} {base : Nat} {e : TypeId} {v : Value} {xs : List (Int × Int)} (h : Own2 w base e v xs) : Pairs (base ≤ ·) w v xs := (ownFl h).fl
theorem Own2.stay {w w' : World} {base : Nat} {e : TypeId} {v : Value} {xs : List (Int × Int)} (h : Own2 w base e v xs) (k : Below w.heap.size w w') : Own2 w' base e v xs := ownStay h k
theorem Own2.shape {w : World} {base : Nat} {e : TypeId} {v : Value} {xs : List (Int × Int)} (h : Own2 w base e v xs) : ∃ a cap, v = .slice a xs.length cap ∧ xs.length ≤ 9223372036854775807 := (ownFl h).shape
theorem Own2.nil (w : World) (base : Nat) (e : TypeId) : Own2 w base e (.slice none 0 0) [] := ⟨rfl, .inl ⟨rfl, rfl⟩⟩
theorem cells2_one' (xs : List (Int × Int)) : ∀ u ∈ cells2 xs, u.oneCell' = true := by
  intro u hu
  unfold cells2 at hu
  obtain ⟨p, _, hp⟩ := List.mem_flatMap.1 hu
  simp at hp
  rcases hp with rfl | rfl <;> rfl
theorem cells2_app (xs ys : List (Int × Int)) : cells2 (xs ++ ys) = cells2 xs ++ cells2 ys := by simp [cells2]
theorem cells3_app (xs ys : List (Int × Int × Int)) : cells3 (xs ++ ys) = cells3 xs ++ cells3 ys := by simp [cells3]
theorem app2 {t e : TypeId} {bytes : Nat} (E : ElemT t e 2 bytes) (hby : bytes ≤ 100) {ops : Array Oper} {rest : List Oper} {o : Oper} {a : Act} {Q : Exit → Act → World → Prop} (hgd : o.guard = none) (s x : Operand)
    (ho : o.op = .call { callee := .builtin .append, args := #[s, x], argTypes := #[t, t] })
    (base : Nat) (v : Value) (xs : List (Int × Int)) (y1 y2 : Int) (w : World) {B : Nat} (hB : B = w.heap.size) (hs : a.eval s = v) (hx : a.eval x = .slice (some ⟨B, 0, none⟩) 1 1)
    (hown : Own2 w base e v xs) (hn : xs.length ≤ 1000000000) (hbase : base ≤ w.heap.size)
    (h : ∀ v' w', Hid (Own2 w' base e v' (xs ++ [(y1, y2)])) → w.grownBy w' v.ownBlock → wpList Try.prog ops Q rest (a.put o.dst v') w') :
    wpList Try.prog ops Q (o :: rest) a (w.alloc (.cells #[.int .i64 y1, .int .i64 y2] e)) :=
  appOne E hby hgd s x ho base v _ _ [.int .i64 y1, .int .i64 y2] w hs (by rw [hx, hB]) hown rfl (by simp [Value.oneCell']) hn hbase fun v' w' k1 k2 _ =>
    h v' w' (by unfold Own2; rw [List.length_append, cells2_app]; exact k1) (grownTrans (grownBel ((Below.refl _ _).alloc (Nat.le_refl _) _)) k2)
/-- A list of triples of numbers that the call made. -/
def Own3 (w : World) (base : Nat) (e : TypeId) (v : Value) (xs : List (Int × Int × Int)) : Prop := w.ownsRow base e 3 v xs.length (cells3 xs)
theorem Own3.rd {w : World} {base : Nat} {e : TypeId} {v : Value} {xs : List (Int × Int × Int)} (h : Own3 w base e v xs) : Trips (base ≤ ·) w v xs := (ownFl h).fl
theorem Own3.stay {w w' : World} {base : Nat} {e : TypeId} {v : Value} {xs : List (Int × Int × Int)} (h : Own3 w base e v xs) (k : Below w.heap.size w w') : Own3 w' base e v xs := ownStay h k
theorem Own3.shape {w : World} {base : Nat} {e : TypeId} {v : Value} {xs : List (Int × Int × Int)} (h : Own3 w base e v xs) : ∃ a cap, v = .slice a xs.length cap ∧ xs.length ≤ 9223372036854775807 := (ownFl h).shape
theorem Own3.nil (w : World) (base : Nat) (e : TypeId) : Own3 w base e (.slice none 0 0) [] := ⟨rfl, .inl ⟨rfl, rfl⟩⟩
theorem app3 {t e : TypeId} {bytes : Nat} (E : ElemT t e 3 bytes) (hby : bytes ≤ 100) {ops : Array Oper} {rest : List Oper} {o : Oper} {a : Act} {Q : Exit → Act → World → Prop} (hgd : o.guard = none) (s x : Operand)
    (ho : o.op = .call { callee := .builtin .append, args := #[s, x], argTypes := #[t, t] })
    (base : Nat) (v : Value) (xs : List (Int × Int × Int)) (y1 y2 y3 : Int) (w : World) {B : Nat} (hB : B = w.heap.size) (hs : a.eval s = v) (hx : a.eval x = .slice (some ⟨B, 0, none⟩) 1 1)
    (hown : Own3 w base e v xs) (hn : xs.length ≤ 1000000000) (hbase : base ≤ w.heap.size)
    (h : ∀ v' w', Hid (Own3 w' base e v' (xs ++ [(y1, y2, y3)])) → w.grownBy w' v.ownBlock → wpList Try.prog ops Q rest (a.put o.dst v') w') :
    wpList Try.prog ops Q (o :: rest) a (w.alloc (.cells #[.int .i64 y1, .int .i64 y2, .int .i64 y3] e)) :=
  appOne E hby hgd s x ho base v _ _ [.int .i64 y1, .int .i64 y2, .int .i64 y3] w hs (by rw [hx, hB]) hown rfl (by simp [Value.oneCell']) hn hbase fun v' w' k1 k2 _ =>
    h v' w' (by unfold Own3; rw [List.length_append, cells3_app]; exact k1) (grownTrans (grownBel ((Below.refl _ _).alloc (Nat.le_refl _) _)) k2)
theorem elMove : ElemT 44 89 3 24 := ElemT.of (z := .agg #[.int .i64 0, .int .i64 0, .int .i64 0]) Try.underlying44 (by kernel_rfl) rfl (by decide)
end Go.Proofs.Ytgihihnbapnnjaa
