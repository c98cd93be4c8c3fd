/- The first and the last letters of an expression: what they are. -/
import Derived.Test.YtbcjhiponbfbnaaEmp
set_option linter.unusedSimpArgs false
set_option linter.unusedVariables false
set_option linter.unusedSectionVars false
namespace Go.Proofs.Ytbcjhiponbfbnaa
open Go.RowKit
set_option maxRecDepth 100000
variable {S T : Nat → Prop}
/-- The places of first letters, where the expression begins at f. -/
def Re.fps : Re → Int → List Int
  | .none, _ => []
  | .empty, _ => []
  | .letter _, f => [f]
  | .join a b, f => if a.nul then a.fps f ++ b.fps (f + a.flat.length) else a.fps f
  | .either a b, f => a.fps f ++ b.fps (f + a.flat.length)
  | .both a _, f => a.fps f
  | .not a, f => a.fps f
  | .star a, f => a.fps f
/-- The places of last letters. -/
def Re.lps : Re → Int → List Int
  | .none, _ => []
  | .empty, _ => []
  | .letter _, f => [f]
  | .join a b, f => if b.nul then a.lps f ++ b.lps (f + a.flat.length) else b.lps (f + a.flat.length)
  | .either a b, f => a.lps f ++ b.lps (f + a.flat.length)
  | .both a _, f => a.lps f
  | .not a, f => a.lps f
  | .star a, f => a.lps f
/-- A list that ascends, between two numbers. -/
def Up (l : List Int) (f g : Int) : Prop := l.Pairwise (· < ·) ∧ (∀ x ∈ l, f ≤ x ∧ x < g) ∧ (l.length : Int) ≤ g - f
theorem Up.app {l m : List Int} {f g h : Int} (hl : Up l f g) (hm : Up m g h) : Up (l ++ m) f h :=
  ⟨List.pairwise_append.2 ⟨hl.1, hm.1, fun x hx y hy => by have := (hl.2.1 x hx).2; have := (hm.2.1 y hy).1; omega⟩,
   fun x hx => by
    rcases List.mem_append.1 hx with h | h
    · have := hl.2.1 x h; have := hm.2.2; have := hl.2.2; omega
    · have := hm.2.1 x h; have := hl.2.2; omega,
   by rw [List.length_append]; have := hl.2.2; have := hm.2.2; omega⟩
theorem Up.mono {l : List Int} {f g f' g' : Int} (hl : Up l f g) (h1 : f' ≤ f) (h2 : g ≤ g') : Up l f' g' :=
  ⟨hl.1, fun x hx => by have := hl.2.1 x hx; omega, by have := hl.2.2; omega⟩
theorem Up.nil {f g : Int} (h : f ≤ g) : Up [] f g := ⟨List.Pairwise.nil, fun _ h => absurd h List.not_mem_nil, by simp; omega⟩
theorem fps_asc (t : Re) : ∀ f : Int, Up (t.fps f) f (f + t.flat.length) := by
  induction t with
  | none => intro f; exact Up.nil (by omega)
  | empty => intro f; exact Up.nil (by omega)
  | letter c => intro f; exact ⟨by simp [Re.fps], by simp [Re.fps, Re.flat]; omega, by simp [Re.fps, Re.flat]; omega⟩
  | join a b iha ihb =>
    intro f
    have hl : ((Re.join a b).flat.length : Int) = a.flat.length + b.flat.length + 1 := by simp [Re.flat]; omega
    unfold Re.fps
    split
    · exact ((iha f).app (ihb _)).mono (Int.le_refl _) (by omega)
    · exact (iha f).mono (Int.le_refl _) (by omega)
  | either a b iha ihb =>
    intro f
    have hl : ((Re.either a b).flat.length : Int) = a.flat.length + b.flat.length + 1 := by simp [Re.flat]; omega
    exact ((iha f).app (ihb _)).mono (Int.le_refl _) (by omega)
  | both a b iha ihb =>
    intro f
    have hl : ((Re.both a b).flat.length : Int) = a.flat.length + b.flat.length + 1 := by simp [Re.flat]; omega
    exact (iha f).mono (Int.le_refl _) (by omega)
  | not a iha =>
    intro f
    have hl : ((Re.not a).flat.length : Int) = a.flat.length + 1 := by simp [Re.flat]
    exact (iha f).mono (Int.le_refl _) (by omega)
  | star a iha =>
    intro f
    have hl : ((Re.star a).flat.length : Int) = a.flat.length + 1 := by simp [Re.flat]
    exact (iha f).mono (Int.le_refl _) (by omega)
theorem lps_asc (t : Re) : ∀ f : Int, Up (t.lps f) f (f + t.flat.length) := by
  induction t with
  | none => intro f; exact Up.nil (by omega)
  | empty => intro f; exact Up.nil (by omega)
  | letter c => intro f; exact ⟨by simp [Re.lps], by simp [Re.lps, Re.flat]; omega, by simp [Re.lps, Re.flat]; omega⟩
  | join a b iha ihb =>
    intro f
    have hl : ((Re.join a b).flat.length : Int) = a.flat.length + b.flat.length + 1 := by simp [Re.flat]; omega
    unfold Re.lps
    split
    · exact ((iha f).app (ihb _)).mono (Int.le_refl _) (by omega)
    · exact (ihb _).mono (by omega) (by omega)
  | either a b iha ihb =>
    intro f
    have hl : ((Re.either a b).flat.length : Int) = a.flat.length + b.flat.length + 1 := by simp [Re.flat]; omega
    exact ((iha f).app (ihb _)).mono (Int.le_refl _) (by omega)
  | both a b iha ihb =>
    intro f
    have hl : ((Re.both a b).flat.length : Int) = a.flat.length + b.flat.length + 1 := by simp [Re.flat]; omega
    exact (iha f).mono (Int.le_refl _) (by omega)
  | not a iha =>
    intro f
    have hl : ((Re.not a).flat.length : Int) = a.flat.length + 1 := by simp [Re.flat]
    exact (iha f).mono (Int.le_refl _) (by omega)
  | star a iha =>
    intro f
    have hl : ((Re.star a).flat.length : Int) = a.flat.length + 1 := by simp [Re.flat]
    exact (iha f).mono (Int.le_refl _) (by omega)
end Go.Proofs.Ytbcjhiponbfbnaa
