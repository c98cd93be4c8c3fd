/- The law FnExactNextToken answers true for every input; its arguments read afterwards as they did. No condition. -/
import Derived.Test.YthdbgpdidolmaaaFnExactNextTokenW
import Derived.Test.YthdbgpdidolmaaaFct
import Derived.Test.YthdbgpdidolmaaaOpn
namespace Go.Proofs.Ythdbgpdidolmaaa.fnExactNextToken
open Go.ChangeShapes Go.WideShapes Go.ChangeAt Go.RowKit
open Go.ChangeMaps (open_string shut_string)
set_option linter.unusedVariables false

theorem wfI {n : Int} (h : (Lit.int .i64 n).wf = true) : -9223372036854775808 ≤ n ∧ n ≤ 9223372036854775807 := by simpa [Lit.wf, IntKind.min, IntKind.max, IntKind.bits, IntKind.signed] using h
set_option maxRecDepth 100000 in
theorem lifted (os : Os) (started : os.Started) (H : Type) (enc : TypeId × Value → H) :
    ReturnsInHanded {} Try.checked os 11 .any (Rows.fnExactNextTokenSpec.pre6 enc Try.prog Try.f11 Rows.fnExactNextTokenRow.domain false) (Rows.fnExactNextTokenSpec.post enc Try.prog Try.f11 false true false false) := by
  refine returnsInHanded_of_change (C := Try.checked) Fct.own started (by kernel_rfl) Try.func11
    (ChangeSpec.witness6 (enc := enc) (C := Try.checked) false ⟨#[], #[.slice none 0 0, .string ByteArray.empty, .int .i64 0], []⟩ 8 (by kernel_rfl) (by kernel_rfl) (by kernel_rfl) (by kernel_rfl)) ?_
  intro W base args ds gs before hval0 hW hcnd _
  have hval : ∀ (j : Nat) t v, Try.f11.params[j]? = some t → args[j]? = some v → Value.okWide Try.prog W .any base t v := hval0
  have hW' := hW
  obtain ⟨p, q, hA0, hV, rfl, hfz, hnd⟩ := hW
  have hA : DataW.TrodAll enc Try.prog W 0 (fun _ => true) true Try.f11.params.toList args.toList ds p := hA0
  rw [Try.params11] at hA hval
  obtain ⟨v0, vs0, d0, ds0, p0, q0, hargs, rfl, rfl, h0, r0⟩ := trodAll_cons hA
  obtain ⟨v1, vs1, d1, ds1, p1, q1, rfl, rfl, rfl, h1, r1⟩ := trodAll_cons r0
  obtain ⟨v2, vs2, d2, ds2, p2, q2, rfl, rfl, rfl, h2, r2⟩ := trodAll_cons r1
  obtain ⟨rfl, rfl, rfl⟩ := trodAll_nil r2
  obtain rfl : args = #[v0, v1, v2] := by cases args; simp_all
  obtain ⟨rfl, rfl⟩ := trodVars_none hV
  have k0 := h0
  have lt0 : ∀ x ∈ p0, x.block < W.heap.size := by obtain ⟨m, hm⟩ := k0; exact DataW.trod_lt m _ _ _ hm
  obtain ⟨x0, w0⟩ := Opn.dfas (hval 0 22 v0 rfl rfl) h0
  have k1 := h1
  have lt1 : ∀ x ∈ p1, x.block < W.heap.size := by obtain ⟨m, hm⟩ := k1; exact DataW.trod_lt m _ _ _ hm
  obtain ⟨a1, e0, e1, e2, w1⟩ := open_string Try.underlying9 (hval 1 9 v1 rfl rfl) h1; subst e0
  have k2 := h2
  have lt2 : ∀ x ∈ p2, x.block < W.heap.size := by obtain ⟨m, hm⟩ := k2; exact DataW.trod_lt m _ _ _ hm
  obtain ⟨a2, e0, e1, e2, w2⟩ := open_int Try.underlying3 (hval 2 3 v2 rfl rfl) h2; subst e0
  clear hA0 hval0
  refine (walk W v0 x0 w0 a1 w1 a2 (wfI w2)).mono fun e W' ⟨he, bel⟩ => ?_
  subst he
  exact ⟨_, rfl, _, _, _, [], _, [], hW', trodAll_mk1 (shut_bool Try.underlying4 _), (trodAll_cons_mk (Below.trod Fct.laidOut (by kernel_rfl) (of_decide_eq_true (by kernel_rfl)) k0 bel lt0) (trodAll_cons_mk (Below.trod Fct.laidOut (by kernel_rfl) (of_decide_eq_true (by kernel_rfl)) k1 bel lt1) (trodAll_cons_mk (Below.trod Fct.laidOut (by kernel_rfl) (of_decide_eq_true (by kernel_rfl)) k2 bel lt2) trodAll_mk0))), rfl, bel.frame _, fun h => by cases h⟩

theorem j10 : (Rows.fnExactNextTokenRow.inPlace == Try.prog.inPlace 11) = true := by kernel_rfl
theorem j11 : (Rows.fnExactNextTokenRow.unfollowed == Try.prog.unfollowed 11) = true := by kernel_rfl
theorem j12 : (Rows.fnExactNextTokenRow.recurses == Try.prog.recurses 11) = true := by kernel_rfl
theorem j13 : (Rows.fnExactNextTokenRow.named == Try.prog.varsNamed 11) = true := by kernel_rfl
theorem j1 : Rows.fnExactNextTokenRow.wf (OpenSpec.ofChange Rows.fnExactNextTokenSpec) = true := by kernel_rfl
theorem joined : joinedFacts Try.prog 11 Try.f11 Rows.fnExactNextTokenSpec Rows.fnExactNextTokenRow = true := Fct.both (Fct.both (Fct.both (Fct.both (Fct.both (Fct.both (Fct.both (Fct.both (Fct.both (Fct.both (Fct.both (Fct.both (Fct.both (Fct.both (Fct.both (Fct.both (Fct.both (Fct.both (Fct.both (Fct.both (Fct.both (Fct.both (Fct.both (Fct.both (Fct.both (Fct.both (Fct.both (Fct.both (Fct.both (Fct.both (Fct.both (j1) Fct.laidOut) Fct.mapsRow) (by as_aux_lemma => kernel_rfl)) (by as_aux_lemma => kernel_rfl)) (by as_aux_lemma => kernel_rfl)) Fct.stops) (by as_aux_lemma => kernel_rfl)) Fct.stopKnobs) j10) j11) j12) j13) (by as_aux_lemma => kernel_rfl)) (by as_aux_lemma => kernel_rfl)) (by as_aux_lemma => kernel_rfl)) (by as_aux_lemma => kernel_rfl)) (by as_aux_lemma => kernel_rfl)) (by as_aux_lemma => kernel_rfl)) (by as_aux_lemma => kernel_rfl)) (by as_aux_lemma => kernel_rfl)) (by as_aux_lemma => kernel_rfl)) Fct.plainK) (by as_aux_lemma => kernel_rfl)) Fct.heard) Fct.mayEnter) Fct.lifts) Fct.made) (by as_aux_lemma => kernel_rfl)) (by as_aux_lemma => kernel_rfl)) (by as_aux_lemma => kernel_rfl)) (by as_aux_lemma => kernel_rfl)
theorem inst : Try.f11.isInstance Try.prog Rows.fnExactNextTokenRow.origin Rows.fnExactNextTokenRow.targs := of_decide_eq_true (by kernel_rfl)
theorem wrap : Try.f11.isWrapper Try.prog Rows.fnExactNextTokenRow.wrapper Rows.fnExactNextTokenRow.mainSum := by unfold Func.isWrapper; first | (rw [if_pos (by decide +kernel)]; kernel_rfl) | (rw [if_neg (by decide +kernel)]; exact ⟨rfl, rfl⟩)
theorem over : Rows.fnExactNextTokenRow.holds Try.pinned (OpenSpec.ofChange Rows.fnExactNextTokenSpec) :=
  OpenClaim.holds_of_wide 11 Try.f11 rfl rfl rfl rfl rfl rfl rfl ⟨rfl, rfl, rfl, rfl, rfl⟩ rfl rfl rfl rfl rfl (by as_aux_lemma => kernel_rfl) Try.func11 joined inst wrap
    (fun os started H enc _ => lifted os started H enc)

theorem proved : Rows.FnExactNextTokenSaid := over
#print axioms proved
end Go.Proofs.Ythdbgpdidolmaaa.fnExactNextToken
