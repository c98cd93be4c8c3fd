/- The first and the last places: the reference's answers. -/
import Derived.Test.YtbcjhiponbfbnaaFtq
import Derived.Test.YtbcjhiponbfbnaaLpl
set_option linter.unusedSimpArgs false
set_option linter.unusedVariables false
set_option linter.unusedSectionVars false
namespace Go.Proofs.Ytbcjhiponbfbnaa
open Go.RowKit
set_option maxRecDepth 100000
variable {S T : Nat → Prop}
theorem fps_len (t : Re) (f : Int) : (t.fps f).length ≤ t.flat.length := by have := (fps_asc t f).2.2; omega
theorem lps_len (t : Re) (f : Int) : (t.lps f).length ≤ t.flat.length := by have := (lps_asc t f).2.2; omega
open Classical in
/-- The tree of a plain expression. -/
noncomputable def plT (e : List (Int × Int)) : Option Re := if ExprOk e ∧ plainE e then (match parse e with | some [t] => some t | _ => none) else none
theorem plT_yes {e : List (Int × Int)} (h : ExprOk e) (hp : plainE e) : ∃ t : Re, t.wf ∧ t.flat = e ∧ t.flat.length ≤ 60 ∧ plT e = some t := by
  obtain ⟨t, ht, he, hl⟩ := (exprOk_iff e).1 h
  refine ⟨t, ht, he, by rw [he]; exact hl, ?_⟩
  unfold plT
  rw [if_pos ⟨h, hp⟩, ← he, parse_flat ht]
theorem plT_no {e : List (Int × Int)} (h : ¬ (ExprOk e ∧ plainE e)) : plT e = none := by unfold plT; rw [if_neg h]
theorem plT_some {e : List (Int × Int)} {t : Re} (h : plT e = some t) : ExprOk e ∧ plainE e ∧ t.wf ∧ t.flat = e ∧ t.flat.length ≤ 60 := by
  by_cases h1 : ExprOk e ∧ plainE e
  · obtain ⟨t', a, b, c, d⟩ := plT_yes h1.1 h1.2
    rw [h] at d
    cases d
    exact ⟨h1.1, h1.2, a, b, c⟩
  · rw [plT_no h1] at h; cases h
/-- The first places of an expression. -/
noncomputable def fpv (e : List (Int × Int)) : List Int := match plT e with | some t => t.fps 0 | none => []
/-- The last places of an expression. -/
noncomputable def lpw (e : List (Int × Int)) : List Int := match plT e with | some t => t.lps 0 | none => []
theorem fpv_some {e : List (Int × Int)} {t : Re} (h : plT e = some t) : fpv e = t.fps 0 := by unfold fpv; rw [h]
theorem lpw_some {e : List (Int × Int)} {t : Re} (h : plT e = some t) : lpw e = t.lps 0 := by unfold lpw; rw [h]
theorem fpv_none {e : List (Int × Int)} (h : plT e = none) : fpv e = [] := by unfold fpv; rw [h]
theorem lpw_none {e : List (Int × Int)} (h : plT e = none) : lpw e = [] := by unfold lpw; rw [h]
theorem fpv_len (e : List (Int × Int)) : (fpv e).length ≤ 60 := by
  cases h : plT e with
  | none => rw [fpv_none h]; simp
  | some t => rw [fpv_some h]; have := fps_len t 0; have := (plT_some h).2.2.2.2; omega
theorem lpw_len (e : List (Int × Int)) : (lpw e).length ≤ 60 := by
  cases h : plT e with
  | none => rw [lpw_none h]; simp
  | some t => rw [lpw_some h]; have := lps_len t 0; have := (plT_some h).2.2.2.2; omega
end Go.Proofs.Ytbcjhiponbfbnaa
