/- The first and the last letters of an expression: the reference's answer. -/
import Derived.Test.YtbcjhiponbfbnaaFtp
import Derived.Test.YtbcjhiponbfbnaaJn
set_option linter.unusedSimpArgs false
set_option linter.unusedVariables false
set_option linter.unusedSectionVars false
namespace Go.Proofs.Ytbcjhiponbfbnaa
open Go.RowKit
set_option maxRecDepth 100000
variable {S T : Nat → Prop}
/-- The call answers two lists of ints of its own. -/
def R2I (w : World) (xs ys : List Int) (e : Ending) (w' : World) : Prop := ∃ va vb, e = .returned (.tuple #[va, vb]) ∧ Below w.heap.size w w' ∧ Hid (OwnI w' w.heap.size va xs) ∧ Hid (OwnI w' w.heap.size vb ys)
theorem lit0 (w : World) {base : Nat} (hb : base ≤ w.heap.size) : OwnI (w.alloc (.cells #[] 3)) base (.slice (some ⟨w.heap.size, 0, none⟩) 0 0) [] := ownLit (n := 0) [] hb (by omega) rfl
/-- The four empty lists. -/
def four (w : World) : World := (((w.alloc (.cells #[] 3)).alloc (.cells #[] 3)).alloc (.cells #[] 3)).alloc (.cells #[] 3)
theorem fourBel (w : World) : Below w.heap.size w (four w) := ((((Below.refl _ _).alloc (Nat.le_refl _) _).alloc (by simp) _).alloc (by simp; omega) _).alloc (by simp; omega) _
theorem alBel (w : World) (o : Obj) : Below w.heap.size w (w.alloc o) := (Below.refl _ _).alloc (Nat.le_refl _) _
theorem four0 (w : World) {base : Nat} (hb : base ≤ w.heap.size) : OwnI (four w) base (.slice (some ⟨w.heap.size, 0, none⟩) 0 0) [] := (((lit0 w hb).stay (alBel _ _)).stay (alBel _ _)).stay (alBel _ _)
theorem four1 (w : World) {base : Nat} (hb : base ≤ w.heap.size) : OwnI (four w) base (.slice (some ⟨w.heap.size + 1, 0, none⟩) 0 0) [] := by
  have h := ((lit0 (w.alloc (.cells #[] 3)) (base := base) (by simp; omega)).stay (alBel _ (.cells #[] 3))).stay (alBel _ (.cells #[] 3))
  simpa [four] using h
theorem fourSz (w : World) : (four w).heap.size = w.heap.size + 1 + 1 + 1 + 1 := by simp [four]
theorem oneLit (w : World) (f : Int) {base : Nat} (hb : base ≤ w.heap.size) : OwnI (w.alloc (.cells #[.int .i64 f] 3)) base (.slice (some ⟨w.heap.size, 0, none⟩) 1 1) [f] := ownLit (n := 1) [.int .i64 f] hb (by omega) rfl
end Go.Proofs.Ytbcjhiponbfbnaa
