/- Words and small lemmas that all walks of this seat use: posts of calls, readings of slices. No condition. -/
import Derived.Test.YtgihihnbapnnjaaRows
import Derived.WalkKit
import Derived.WalkSpells
import Derived.WalkLawsBesides
import Derived.LoopTactic
import Derived.Below
import Derived.Lib.Hide
import Derived.Deep.QuietTactic
import Derived.BigQuiet
import Derived.Outline
namespace Go.Proofs.Ytgihihnbapnnjaa
open Go.RowKit

/-- The call answers a bool that says p, and leaves the world alone. -/
def RB (w : World) (p : Prop) (e : Ending) (w' : World) : Prop := ∃ b : Bool, e = .returned (.bool b) ∧ w = w' ∧ Hid (b = true ↔ p)
/-- The call answers a bool that says p; new memory at most. -/
def RBn (w : World) (p : Prop) (e : Ending) (w' : World) : Prop := ∃ b : Bool, e = .returned (.bool b) ∧ Below w.heap.size w w' ∧ Hid (b = true ↔ p)
/-- The call answers an int of which p holds, and leaves the world alone. -/
def RI (w : World) (p : Int → Prop) (e : Ending) (w' : World) : Prop := ∃ n : Int, e = .returned (.int .i64 n) ∧ w = w' ∧ Hid (p n)
/-- The call answers an int of which p holds; new memory at most. -/
def RIn (w : World) (p : Int → Prop) (e : Ending) (w' : World) : Prop := ∃ n : Int, e = .returned (.int .i64 n) ∧ Below w.heap.size w w' ∧ Hid (p n)
/-- The call answers a string of which p holds; new memory at most. -/
def RSn (w : World) (p : ByteArray → Prop) (e : Ending) (w' : World) : Prop := ∃ s : ByteArray, e = .returned (.string s) ∧ Below w.heap.size w w' ∧ Hid (p s)
/-- The call answers a value of which p holds in the world behind; new memory at most. -/
def RVn (w : World) (p : Value → World → Prop) (e : Ending) (w' : World) : Prop := ∃ v : Value, e = .returned v ∧ Below w.heap.size w w' ∧ Hid (p v w')

theorem hbT {p : Prop} (h : Hid (true = true ↔ p)) : p := h.1 rfl
theorem hbF {p : Prop} (h : Hid (false = true ↔ p)) : ¬ p := fun hp => by cases h.2 hp
theorem RB.mk {w : World} {p : Prop} {b : Bool} (h : b = true ↔ p) : RB w p (.returned (.bool b)) w := ⟨b, rfl, rfl, h⟩
theorem RBn.mk {w w' : World} {p : Prop} {b : Bool} (hb : Below w.heap.size w w') (h : b = true ↔ p) : RBn w p (.returned (.bool b)) w' := ⟨b, rfl, hb, h⟩
theorem RI.mk {w : World} {p : Int → Prop} {n : Int} (h : p n) : RI w p (.returned (.int .i64 n)) w := ⟨n, rfl, rfl, h⟩
theorem RIn.mk {w w' : World} {p : Int → Prop} {n : Int} (hb : Below w.heap.size w w') (h : p n) : RIn w p (.returned (.int .i64 n)) w' := ⟨n, rfl, hb, h⟩
theorem RSn.mk {w w' : World} {p : ByteArray → Prop} {n : ByteArray} (hb : Below w.heap.size w w') (h : p n) : RSn w p (.returned (.string n)) w' := ⟨n, rfl, hb, h⟩
theorem RVn.mk {w w' : World} {p : Value → World → Prop} {v : Value} (hb : Below w.heap.size w w') (h : p v w') : RVn w p (.returned v) w' := ⟨v, rfl, hb, h⟩
theorem RB.imp {w : World} {p q : Prop} {e : Ending} {w' : World} (h : RB w p e w') (k : p ↔ q) : RB w q e w' := let ⟨b, h1, h2, h3⟩ := h; ⟨b, h1, h2, h3.out.trans k⟩
theorem belDrewN {B : Nat} {a w : World} (h : Below B a w) (q : Nat) : Below B a (w.drewN q) := ⟨h.os, h.tape, h.output, h.size, h.block⟩
theorem belReflN (B : Nat) (w : World) (q : Nat) : Below B w (w.drewN q) := belDrewN (Below.refl B w) q
theorem RB.n {w : World} {p : Prop} {e : Ending} {w' : World} (h : RB w p e w') : RBn w p e w' := let ⟨b, h1, h2, h3⟩ := h; ⟨b, h1, h2 ▸ Below.refl _ _, h3⟩

theorem boolEq {b c : Bool} {p : Prop} (h : Hid (b = true ↔ p)) (k : Hid (c = true ↔ p)) : b = c := by
  have h1 := h.out; have h2 := k.out
  cases b <;> cases c <;> first | rfl | (exfalso; simp at h1 h2; contradiction)
theorem bneSelf (b : Bool) : (b != b) = false := by cases b <;> rfl
/-- The law answered true, and made new memory at most. -/
def Yes (w : World) (e : Ending) (w' : World) : Prop := e = .returned (.bool true) ∧ Below w.heap.size w w'
theorem strNil {s : ByteArray} (h : s.size = 0) : s.toList.isEmpty = true := by
  rw [ByteArray.toList_eq, List.isEmpty_iff]; exact List.eq_nil_of_length_eq_zero (by simpa using h)
theorem strCons {s : ByteArray} (h : 0 < s.size) : s.toList.isEmpty = false := by
  rw [ByteArray.toList_eq]
  cases hd : s.data.toList with
  | nil => have : s.data.toList.length = s.size := by simp
           rw [hd] at this; simp at this; omega
  | cons a t => rfl
theorem bcell {W w1 : World} (hb : Below W.heap.size W w1) : (∀ b o, b < W.heap.size → w1.cell? ⟨b, o, none⟩ = W.cell? ⟨b, o, none⟩) ∧ (∀ b o, b < W.heap.size → w1.frozen? ⟨b, o, none⟩ = W.frozen? ⟨b, o, none⟩) :=
  ⟨fun b o h => hb.cell (p := ⟨b, o, none⟩) h, fun b o h => hb.frozen (p := ⟨b, o, none⟩) h⟩
theorem heap_set {w : World} {b : Nat} {cs : Array Value} {t : TypeId} {fz : Nat × Nat} (h : w.heap[b]? = some (.cells cs t fz)) (o : Nat) (v : Value) :
    (w.setCell ⟨b, o, none⟩ v).heap[b]? = some (.cells (cs.setIfInBounds o v) t fz) := by
  simp only [World.setCell, Array.getElem?_modify, if_true, h, Option.map_some]
  rfl
theorem blkFz {w : World} {b : Nat} {cs : Array Value} {t : TypeId} (h : w.heap[b]? = some (.cells cs t (0, 0))) (o : Nat) : w.frozen? ⟨b, o, none⟩ = false := by simp [World.frozen?, h]
theorem blk2 {w : World} {b : Nat} {x y : Value} {t : TypeId} (h : w.heap[b]? = some (.cells #[x, y] t (0, 0))) :
    w.cell? ⟨b, 0, none⟩ = some x ∧ w.cell? ⟨b, 1, none⟩ = some y ∧ w.frozen? ⟨b, 0, none⟩ = false ∧ w.frozen? ⟨b, 1, none⟩ = false :=
  ⟨by rw [cell_of_row w b 0 _ _ _ h]; rfl, by rw [cell_of_row w b 1 _ _ _ h]; rfl, blkFz h 0, blkFz h 1⟩
theorem blkNew (w : World) (o : Obj) {b : Nat} (hb : b = w.heap.size) : (w.alloc o).heap[b]? = some o := by subst hb; exact heap_alloc_new w o
theorem blkOld {w : World} {o : Obj} {b : Nat} {ob : Obj} (h : w.heap[b]? = some ob) : (w.alloc o).heap[b]? = some ob := by
  rw [heap_alloc_old w o (Array.getElem?_eq_some_iff.1 h).1]; exact h
theorem blkBel {w w' : World} {b : Nat} {ob : Obj} (hb : Below w.heap.size w w') (h : w.heap[b]? = some ob) : w'.heap[b]? = some ob := by
  rw [hb.block b (Array.getElem?_eq_some_iff.1 h).1]; exact h
theorem blkSet {w : World} {b c o : Nat} {v : Value} {ob : Obj} (h : w.heap[b]? = some ob) (hne : b ≠ c) : (w.setCell ⟨c, o, none⟩ v).heap[b]? = some ob := by
  rw [Below.heap_setCell _ _ _ _ hne]; exact h
/-- A byte is a letter. -/
def letB (c : UInt8) : Prop := 97 ≤ (c.toNat : Int) ∧ (c.toNat : Int) ≤ 99
/-- A text has letters alone. -/
def letS (s : ByteArray) : Prop := ∀ j (h : j < s.size), letB s[j]
end Go.Proofs.Ytgihihnbapnnjaa
