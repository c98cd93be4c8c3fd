/- The law FnExactExprOf answers true for every input; its arguments read afterwards as they did. No condition. -/
import Derived.Test.YtbcjhiponbfbnaaFnExactExprOfW
import Derived.Test.YtbcjhiponbfbnaaFct
import Derived.Test.YtbcjhiponbfbnaaOpn
set_option linter.unusedSimpArgs false
set_option linter.unusedVariables false
set_option linter.unusedSectionVars false
namespace Go.Proofs.Ytbcjhiponbfbnaa.fnExactExprOf
open Go.ChangeShapes Go.WideShapes Go.ChangeAt Go.RowKit
open Go.ChangeMaps (open_string shut_string)
set_option linter.unusedVariables false

theorem wfI {n : Int} (h : (Lit.int .i64 n).wf = true) : -9223372036854775808 ≤ n ∧ n ≤ 9223372036854775807 := by simpa [Lit.wf, IntKind.min, IntKind.max, IntKind.bits, IntKind.signed] using h
set_option maxRecDepth 100000 in
theorem lifted (os : Os) (started : os.Started) (H : Type) (enc : TypeId × Value → H) :
    ReturnsInHanded {} Try.checked os 6 .any (Rows.fnExactExprOfSpec.pre6 enc Try.prog Try.f6 Rows.fnExactExprOfRow.domain false) (Rows.fnExactExprOfSpec.post enc Try.prog Try.f6 false true false false) := by
  refine returnsInHanded_of_change (C := Try.checked) Fct.own started (by kernel_rfl) Try.func6
    (ChangeSpec.witness6 (enc := enc) (C := Try.checked) false ⟨#[], #[.agg #[.slice none 0 0, .slice none 0 0]], []⟩ 8 (by kernel_rfl) (by kernel_rfl) (by kernel_rfl) (by kernel_rfl)) ?_
  intro W base args ds gs before hval0 hW hcnd _
  have hval : ∀ (j : Nat) t v, Try.f6.params[j]? = some t → args[j]? = some v → Value.okWide Try.prog W .any base t v := hval0
  have hW' := hW
  obtain ⟨p, q, hA0, hV, rfl, hfz, hnd⟩ := hW
  have hA : DataW.TrodAll enc Try.prog W 0 (fun _ => true) true Try.f6.params.toList args.toList ds p := hA0
  rw [Try.params6] at hA hval
  obtain ⟨v0, vs0, d0, ds0, p0, q0, hargs, rfl, rfl, h0, r0⟩ := trodAll_cons hA
  obtain ⟨rfl, rfl, rfl⟩ := trodAll_nil r0
  obtain rfl : args = #[v0] := by cases args; simp_all
  obtain ⟨rfl, rfl⟩ := trodVars_none hV
  have k0 := h0
  have lt0 : ∀ x ∈ p0, x.block < W.heap.size := by obtain ⟨m, hm⟩ := k0; exact DataW.trod_lt m _ _ _ hm
  obtain ⟨a0, b0, x0, e0, w0⟩ := Opn.dfa (hval 0 49 v0 rfl rfl) h0; subst e0
  clear hA0 hval0
  refine (walk W a0 b0 x0 w0).mono fun e W' ⟨he, bel⟩ => ?_
  subst he
  exact ⟨_, rfl, _, _, _, [], _, [], hW', trodAll_mk1 (shut_bool Try.underlying4 _), (trodAll_cons_mk (Below.trod Fct.laidOut (by kernel_rfl) (of_decide_eq_true (by kernel_rfl)) k0 bel lt0) trodAll_mk0), rfl, bel.frame _, fun h => by cases h⟩

theorem j10 : (Rows.fnExactExprOfRow.inPlace == Try.prog.inPlace 6) = true := by kernel_rfl
theorem j11 : (Rows.fnExactExprOfRow.unfollowed == Try.prog.unfollowed 6) = true := by kernel_rfl
theorem j12 : (Rows.fnExactExprOfRow.recurses == Try.prog.recurses 6) = true := by kernel_rfl
theorem j13 : (Rows.fnExactExprOfRow.named == Try.prog.varsNamed 6) = true := by kernel_rfl
theorem j1 : Rows.fnExactExprOfRow.wf (OpenSpec.ofChange Rows.fnExactExprOfSpec) = true := by kernel_rfl
theorem joined : joinedFacts Try.prog 6 Try.f6 Rows.fnExactExprOfSpec Rows.fnExactExprOfRow = true := Fct.both (Fct.both (Fct.both (Fct.both (Fct.both (Fct.both (Fct.both (Fct.both (Fct.both (Fct.both (Fct.both (Fct.both (Fct.both (Fct.both (Fct.both (Fct.both (Fct.both (Fct.both (Fct.both (Fct.both (Fct.both (Fct.both (Fct.both (Fct.both (Fct.both (Fct.both (Fct.both (Fct.both (Fct.both (Fct.both (Fct.both (j1) Fct.laidOut) Fct.mapsRow) (by as_aux_lemma => kernel_rfl)) (by as_aux_lemma => kernel_rfl)) (by as_aux_lemma => kernel_rfl)) Fct.stops) (by as_aux_lemma => kernel_rfl)) Fct.stopKnobs) j10) j11) j12) j13) (by as_aux_lemma => kernel_rfl)) (by as_aux_lemma => kernel_rfl)) (by as_aux_lemma => kernel_rfl)) (by as_aux_lemma => kernel_rfl)) (by as_aux_lemma => kernel_rfl)) (by as_aux_lemma => kernel_rfl)) (by as_aux_lemma => kernel_rfl)) (by as_aux_lemma => kernel_rfl)) (by as_aux_lemma => kernel_rfl)) Fct.plainK) (by as_aux_lemma => kernel_rfl)) Fct.heard) Fct.mayEnter) Fct.lifts) Fct.made) (by as_aux_lemma => kernel_rfl)) (by as_aux_lemma => kernel_rfl)) (by as_aux_lemma => kernel_rfl)) (by as_aux_lemma => kernel_rfl)
theorem inst : Try.f6.isInstance Try.prog Rows.fnExactExprOfRow.origin Rows.fnExactExprOfRow.targs := of_decide_eq_true (by kernel_rfl)
theorem wrap : Try.f6.isWrapper Try.prog Rows.fnExactExprOfRow.wrapper Rows.fnExactExprOfRow.mainSum := by unfold Func.isWrapper; first | (rw [if_pos (by decide +kernel)]; kernel_rfl) | (rw [if_neg (by decide +kernel)]; exact ⟨rfl, rfl⟩)
theorem over : Rows.fnExactExprOfRow.holds Try.pinned (OpenSpec.ofChange Rows.fnExactExprOfSpec) :=
  OpenClaim.holds_of_wide 6 Try.f6 rfl rfl rfl rfl rfl rfl rfl ⟨rfl, rfl, rfl, rfl, rfl⟩ rfl rfl rfl rfl rfl (by as_aux_lemma => kernel_rfl) Try.func6 joined inst wrap
    (fun os started H enc _ => lifted os started H enc)

theorem proved : Rows.FnExactExprOfSaid := over
#print axioms proved
end Go.Proofs.Ytbcjhiponbfbnaa.fnExactExprOf
