/- Lists of ints, bools that a call made: append, cut off, stores elsewhere. -/
import Derived.Test.YtgihihnbapnnjaaApp
namespace Go.Proofs.Ytgihihnbapnnjaa
open Go.RowKit
set_option maxRecDepth 100000

theorem ownTake {w : World} {base : Nat} {e : TypeId} {sz n m : Nat} {a : Option Addr} {cap : Nat} {cs : List Value} (h : w.ownsRow base e sz (.slice a n cap) n cs) (hm : m ≤ n) :
    w.ownsRow base e sz (.slice a m cap) m (cs.take (m * sz)) := by
  obtain ⟨hl, h⟩ := h
  have hms : m * sz ≤ n * sz := Nat.mul_le_mul_right _ hm
  refine ⟨by rw [List.length_take, hl, Nat.min_eq_left hms], ?_⟩
  rcases h with ⟨h1, h2⟩ | ⟨g, cap', cur, hv, hb, hg, hnc, hcm, hcs, ht⟩
  · cases h1
    obtain rfl : m = 0 := by omega
    exact .inl ⟨rfl, rfl⟩
  · cases hv
    refine .inr ⟨g, cap, cur, rfl, hb, hg, by omega, hcm, hcs, ?_⟩
    rw [← ht, List.take_take, Nat.min_eq_left hms]
theorem ownSet {w : World} {base b o : Nat} {e : TypeId} {sz n : Nat} {v : Value} {cs : List Value} (h : w.ownsRow base e sz v n cs) (hb : b < base) (u : Value) : (w.setCell ⟨b, o, none⟩ u).ownsRow base e sz v n cs :=
  h.kept (row := some b) (grownSet w b o u) (.inr (fun hh => by have := World.ownsRow.lt h _ hh; omega))
/-- A list of ints that the call made. -/
def OwnI (w : World) (base : Nat) (v : Value) (xs : List Int) : Prop := w.ownsRow base 3 1 v xs.length (xs.map (.int .i64 ·))
theorem OwnI.rd {w : World} {base : Nat} {v : Value} {xs : List Int} (h : OwnI w base v xs) : Ints (base ≤ ·) w v xs := (ownFl h).fl
theorem OwnI.stay {w w' : World} {base : Nat} {v : Value} {xs : List Int} (h : OwnI w base v xs) (k : Below w.heap.size w w') : OwnI w' base v xs := ownStay h k
theorem OwnI.shape {w : World} {base : Nat} {v : Value} {xs : List Int} (h : OwnI w base v xs) : ∃ a cap, v = .slice a xs.length cap ∧ xs.length ≤ 9223372036854775807 := (ownFl h).shape
theorem OwnI.nil (w : World) (base : Nat) : OwnI w base (.slice none 0 0) [] := ⟨rfl, .inl ⟨rfl, rfl⟩⟩
theorem OwnI.take {w : World} {base m : Nat} {a : Option Addr} {n cap : Nat} {xs : List Int} (h : OwnI w base (.slice a n cap) xs) (hn : n = xs.length) (hm : m ≤ xs.length) : OwnI w base (.slice a m cap) (xs.take m) := by
  subst hn
  have := ownTake h hm
  unfold OwnI
  rw [List.length_take, Nat.min_eq_left hm, List.map_take]
  simpa using this
theorem appInt {ops : Array Oper} {rest : List Oper} {o : Oper} {a : Act} {Q : Exit → Act → World → Prop} (hgd : o.guard = none) (s x : Operand)
    (ho : o.op = .call { callee := .builtin .append, args := #[s, x], argTypes := #[24, 24] })
    (base : Nat) (v : Value) (xs : List Int) (y : Int) (w : World) (hs : a.eval s = v) (hx : a.eval x = .slice (some ⟨w.heap.size, 0, none⟩) 1 1)
    (hown : OwnI w base v xs) (hn : xs.length ≤ 1000000000) (hbase : base ≤ w.heap.size)
    (h : ∀ v' w', Hid (OwnI w' base v' (xs ++ [y])) → w.grownBy w' v.ownBlock → wpList Try.prog ops Q rest (a.put o.dst v') w') :
    wpList Try.prog ops Q (o :: rest) a (w.alloc (.cells #[.int .i64 y] 3)) :=
  appOne elInt (by decide) hgd s x ho base v _ _ [.int .i64 y] w hs hx hown rfl (by simp [Value.oneCell']) hn hbase fun v' w' k1 k2 _ =>
    h v' w' (by unfold OwnI; rw [List.length_append, List.map_append]; exact k1) (grownTrans (grownBel ((Below.refl _ _).alloc (Nat.le_refl _) _)) k2)
/-- A list of bools that the call made. -/
def OwnB (w : World) (base : Nat) (v : Value) (xs : List Bool) : Prop := w.ownsRow base 4 1 v xs.length (xs.map .bool)
theorem OwnB.rd {w : World} {base : Nat} {v : Value} {xs : List Bool} (h : OwnB w base v xs) : Bools (base ≤ ·) w v xs := (ownFl h).fl
theorem OwnB.stay {w w' : World} {base : Nat} {v : Value} {xs : List Bool} (h : OwnB w base v xs) (k : Below w.heap.size w w') : OwnB w' base v xs := ownStay h k
theorem OwnB.shape {w : World} {base : Nat} {v : Value} {xs : List Bool} (h : OwnB w base v xs) : ∃ a cap, v = .slice a xs.length cap ∧ xs.length ≤ 9223372036854775807 := (ownFl h).shape
theorem OwnB.nil (w : World) (base : Nat) : OwnB w base (.slice none 0 0) [] := ⟨rfl, .inl ⟨rfl, rfl⟩⟩
theorem appBool {ops : Array Oper} {rest : List Oper} {o : Oper} {a : Act} {Q : Exit → Act → World → Prop} (hgd : o.guard = none) (s x : Operand)
    (ho : o.op = .call { callee := .builtin .append, args := #[s, x], argTypes := #[57, 57] })
    (base : Nat) (v : Value) (xs : List Bool) (y : Bool) (w : World) (hs : a.eval s = v) (hx : a.eval x = .slice (some ⟨w.heap.size, 0, none⟩) 1 1)
    (hown : OwnB w base v xs) (hn : xs.length ≤ 1000000000) (hbase : base ≤ w.heap.size)
    (h : ∀ v' w', Hid (OwnB w' base v' (xs ++ [y])) → w.grownBy w' v.ownBlock → wpList Try.prog ops Q rest (a.put o.dst v') w') :
    wpList Try.prog ops Q (o :: rest) a (w.alloc (.cells #[.bool y] 4)) :=
  appOne elBool (by decide) hgd s x ho base v _ _ [.bool y] w hs hx hown rfl (by simp [Value.oneCell']) hn hbase fun v' w' k1 k2 _ =>
    h v' w' (by unfold OwnB; rw [List.length_append, List.map_append]; exact k1) (grownTrans (grownBel ((Below.refl _ _).alloc (Nat.le_refl _) _)) k2)
end Go.Proofs.Ytgihihnbapnnjaa
