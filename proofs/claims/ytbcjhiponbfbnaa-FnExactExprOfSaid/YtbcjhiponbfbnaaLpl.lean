/- The places of letters, and whether a list of parts is an expression: the program's answers and the reference's. -/
import Derived.Test.YtbcjhiponbfbnaaSta
import Derived.Test.YtbcjhiponbfbnaaLae
set_option linter.unusedSimpArgs false
set_option linter.unusedVariables false
set_option linter.unusedSectionVars false
namespace Go.Proofs.Ytbcjhiponbfbnaa
open Go.RowKit
set_option maxRecDepth 100000
variable {S T : Nat → Prop}
theorem exprOk_parse (e : List (Int × Int)) : ExprOk e ↔ (∃ t, parse e = some [t]) ∧ e.length ≤ 60 := by
  unfold ExprOk
  rw [dep_parse]
  constructor
  · rintro ⟨h, hl⟩
    refine ⟨?_, hl⟩
    cases hp : parse e with
    | none => rw [hp] at h; simp at h
    | some s =>
      rw [hp] at h
      simp at h
      obtain ⟨t, rfl⟩ := List.length_eq_one_iff.1 h
      exact ⟨t, rfl⟩
  · rintro ⟨⟨t, h⟩, hl⟩
    rw [h]
    exact ⟨rfl, hl⟩
set_option maxHeartbeats 400000 in
theorem ExprValid_c (v : Value) (e : List (Int × Int)) (w : World) (h : Pairs S w v e) : Calls Try.prog 23 #[v] w (RBn w (ExprOk e)) := by
  obtain ⟨a, cap, rfl, hn⟩ := h.shape
  have H := Lib.hid h; clear h
  by_cases hl : e.length ≤ 60
  · have HE := Lib.hid (exprOk_parse e)
    go_enter Try.func23, Try.ntmps23
    go_wp2_with fail
    refine (starts_c _ e w H.out (by omega)).mono ?_
    rintro x w1 ⟨v, rfl, hb, hs⟩
    obtain ⟨vo, ok, rfl, hok, _⟩ := hs.out
    have Hok := Lib.hid hok; clear hok hs
    go_wp2
    go_ret
    exact RBn.mk hb (by rw [HE.out, Hok.out]; exact ⟨fun h => ⟨h, hl⟩, fun h => h.1⟩)
  · have HN : Hid (¬ ExprOk e) := fun h => hl h.2
    have hl' : 60 < e.length := by omega
    go_enter Try.func23, Try.ntmps23
    go_wp2
    go_ret
    exact RBn.mk (Below.refl _ _) ⟨nofun, fun h => absurd h HN.out⟩
/-- The letters among the first parts. -/
def lpk (e : List (Int × Int)) (k : Nat) : List Int := ((List.range k).filter fun i => decide ((e.getD i (0, 0)).1 = 3)).map fun i : Nat => (i : Int)
theorem lpk_step (e : List (Int × Int)) {k : Nat} (h : k < e.length) : lpk e (k + 1) = if e[k].1 = 3 then lpk e k ++ [(k : Int)] else lpk e k := by
  unfold lpk
  rw [List.range_succ, List.filter_append, List.map_append]
  have hg : e.getD k (0, 0) = e[k] := by rw [List.getD_eq_getElem?_getD, List.getElem?_eq_getElem h]; rfl
  by_cases hk : e[k].1 = 3 <;> simp only [List.filter_cons, List.filter_nil, hg, hk] <;> simp
theorem lpk_len (e : List (Int × Int)) (k : Nat) : (lpk e k).length ≤ k := by
  unfold lpk; rw [List.length_map]; exact Nat.le_trans (List.length_filter_le _ _) (by simp)
open Classical in
/-- The places of letters of an expression. -/
noncomputable def lpv (e : List (Int × Int)) : List Int := if ExprOk e then lpk e e.length else []
theorem lpv_yes {e : List (Int × Int)} (h : ExprOk e) : lpv e = lpk e e.length := by unfold lpv; rw [if_pos h]
theorem lpv_no {e : List (Int × Int)} (h : ¬ ExprOk e) : lpv e = [] := by unfold lpv; rw [if_neg h]
theorem lpv_len (e : List (Int × Int)) : (lpv e).length ≤ 60 := by
  by_cases h : ExprOk e
  · rw [lpv_yes h]; exact Nat.le_trans (lpk_len _ _) h.2
  · rw [lpv_no h]; simp
end Go.Proofs.Ytbcjhiponbfbnaa
