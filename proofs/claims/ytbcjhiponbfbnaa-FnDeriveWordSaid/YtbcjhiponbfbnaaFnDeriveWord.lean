/- The law FnDeriveWord answers true for every input; its arguments read afterwards as they did. No condition. -/
import Derived.Test.YtbcjhiponbfbnaaFnDeriveWordW
import Derived.Test.YtbcjhiponbfbnaaFct
import Derived.Test.YtbcjhiponbfbnaaOpn
set_option linter.unusedSimpArgs false
set_option linter.unusedVariables false
set_option linter.unusedSectionVars false
namespace Go.Proofs.Ytbcjhiponbfbnaa.fnDeriveWord
open Go.ChangeShapes Go.WideShapes Go.ChangeAt Go.RowKit
open Go.ChangeMaps (open_string shut_string)
set_option linter.unusedVariables false

theorem wfI {n : Int} (h : (Lit.int .i64 n).wf = true) : -9223372036854775808 ≤ n ∧ n ≤ 9223372036854775807 := by simpa [Lit.wf, IntKind.min, IntKind.max, IntKind.bits, IntKind.signed] using h
set_option maxRecDepth 100000 in
theorem lifted (os : Os) (started : os.Started) (H : Type) (enc : TypeId × Value → H) :
    ReturnsInHanded {} Try.checked os 3 .any (Rows.fnDeriveWordSpec.pre6 enc Try.prog Try.f3 Rows.fnDeriveWordRow.domain false) (Rows.fnDeriveWordSpec.post enc Try.prog Try.f3 false true false false) := by
  refine returnsInHanded_of_change (C := Try.checked) Fct.own started (by kernel_rfl) Try.func3
    (ChangeSpec.witness6 (enc := enc) (C := Try.checked) false ⟨#[], #[.slice none 0 0], []⟩ 8 (by kernel_rfl) (by kernel_rfl) (by kernel_rfl) (by kernel_rfl)) ?_
  intro W base args ds gs before hval0 hW hcnd _
  have hval : ∀ (j : Nat) t v, Try.f3.params[j]? = some t → args[j]? = some v → Value.okWide Try.prog W .any base t v := hval0
  have hW' := hW
  obtain ⟨p, q, hA0, hV, rfl, hfz, hnd⟩ := hW
  have hA : DataW.TrodAll enc Try.prog W 0 (fun _ => true) true Try.f3.params.toList args.toList ds p := hA0
  rw [Try.params3] at hA hval
  obtain ⟨v0, vs0, d0, ds0, p0, q0, hargs, rfl, rfl, h0, r0⟩ := trodAll_cons hA
  obtain ⟨rfl, rfl, rfl⟩ := trodAll_nil r0
  obtain rfl : args = #[v0] := by cases args; simp_all
  obtain ⟨rfl, rfl⟩ := trodVars_none hV
  have k0 := h0
  have lt0 : ∀ x ∈ p0, x.block < W.heap.size := by obtain ⟨m, hm⟩ := k0; exact DataW.trod_lt m _ _ _ hm
  obtain ⟨x0, w0⟩ := Opn.bytes (hval 0 22 v0 rfl rfl) h0
  clear hA0 hval0
  refine (walk W v0 x0 w0).mono fun e W' ⟨he, bel⟩ => ?_
  subst he
  exact ⟨_, rfl, _, _, _, [], _, [], hW', trodAll_mk1 (shut_bool Try.underlying4 _), (trodAll_cons_mk (Below.trod Fct.laidOut (by kernel_rfl) (of_decide_eq_true (by kernel_rfl)) k0 bel lt0) trodAll_mk0), rfl, bel.frame _, fun h => by cases h⟩

theorem j10 : (Rows.fnDeriveWordRow.inPlace == Try.prog.inPlace 3) = true := by kernel_rfl
theorem j11 : (Rows.fnDeriveWordRow.unfollowed == Try.prog.unfollowed 3) = true := by kernel_rfl
theorem j12 : (Rows.fnDeriveWordRow.recurses == Try.prog.recurses 3) = true := by kernel_rfl
theorem j13 : (Rows.fnDeriveWordRow.named == Try.prog.varsNamed 3) = true := by kernel_rfl
theorem j1 : Rows.fnDeriveWordRow.wf (OpenSpec.ofChange Rows.fnDeriveWordSpec) = true := by kernel_rfl
theorem joined : joinedFacts Try.prog 3 Try.f3 Rows.fnDeriveWordSpec Rows.fnDeriveWordRow = true := Fct.both (Fct.both (Fct.both (Fct.both (Fct.both (Fct.both (Fct.both (Fct.both (Fct.both (Fct.both (Fct.both (Fct.both (Fct.both (Fct.both (Fct.both (Fct.both (Fct.both (Fct.both (Fct.both (Fct.both (Fct.both (Fct.both (Fct.both (Fct.both (Fct.both (Fct.both (Fct.both (Fct.both (Fct.both (Fct.both (Fct.both (j1) Fct.laidOut) Fct.mapsRow) (by as_aux_lemma => kernel_rfl)) (by as_aux_lemma => kernel_rfl)) (by as_aux_lemma => kernel_rfl)) Fct.stops) (by as_aux_lemma => kernel_rfl)) Fct.stopKnobs) j10) j11) j12) j13) (by as_aux_lemma => kernel_rfl)) (by as_aux_lemma => kernel_rfl)) (by as_aux_lemma => kernel_rfl)) (by as_aux_lemma => kernel_rfl)) (by as_aux_lemma => kernel_rfl)) (by as_aux_lemma => kernel_rfl)) (by as_aux_lemma => kernel_rfl)) (by as_aux_lemma => kernel_rfl)) (by as_aux_lemma => kernel_rfl)) Fct.plainK) (by as_aux_lemma => kernel_rfl)) Fct.heard) Fct.mayEnter) Fct.lifts) Fct.made) (by as_aux_lemma => kernel_rfl)) (by as_aux_lemma => kernel_rfl)) (by as_aux_lemma => kernel_rfl)) (by as_aux_lemma => kernel_rfl)
theorem inst : Try.f3.isInstance Try.prog Rows.fnDeriveWordRow.origin Rows.fnDeriveWordRow.targs := of_decide_eq_true (by kernel_rfl)
theorem wrap : Try.f3.isWrapper Try.prog Rows.fnDeriveWordRow.wrapper Rows.fnDeriveWordRow.mainSum := by unfold Func.isWrapper; first | (rw [if_pos (by decide +kernel)]; kernel_rfl) | (rw [if_neg (by decide +kernel)]; exact ⟨rfl, rfl⟩)
theorem over : Rows.fnDeriveWordRow.holds Try.pinned (OpenSpec.ofChange Rows.fnDeriveWordSpec) :=
  OpenClaim.holds_of_wide 3 Try.f3 rfl rfl rfl rfl rfl rfl rfl ⟨rfl, rfl, rfl, rfl, rfl⟩ rfl rfl rfl rfl rfl (by as_aux_lemma => kernel_rfl) Try.func3 joined inst wrap
    (fun os started H enc _ => lifted os started H enc)

theorem proved : Rows.FnDeriveWordSaid := over
#print axioms proved
end Go.Proofs.Ytbcjhiponbfbnaa.fnDeriveWord
