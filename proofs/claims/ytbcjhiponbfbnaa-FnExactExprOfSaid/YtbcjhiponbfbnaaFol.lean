/- The pairs of letters that follow each other: the program's follows hands each to a function. -/
import Derived.Deep.RegionHeld3
import Derived.Test.YtbcjhiponbfbnaaEdg
import Derived.Test.YtbcjhiponbfbnaaPsn
set_option linter.unusedSimpArgs false
set_option linter.unusedVariables false
set_option linter.unusedSectionVars false
namespace Go.Proofs.Ytbcjhiponbfbnaa
open Go.RowKit
set_option maxRecDepth 100000
theorem kpFr {M : Nat} {w w' : World} (h : Fr (· = M) w w') : Kp (· ≠ M) w w' := (Ks.mono h.ks (fun _ hb => hb)).kp
theorem cellFr {M b o : Nat} {w w' : World} {v : Value} (h : Fr (· = M) w w') (hb : b ≠ M) (hc : w.cell? ⟨b, o, none⟩ = some v) : w'.cell? ⟨b, o, none⟩ = some v := kpFr h ⟨b, o, none⟩ v hb hc
theorem lastF {M : Nat} {e0 : List (Int × Int)} {x y : Int} {ad : Option Addr} {n cap : Nat} {w : World} (h : Pairs (· ≠ M) w (.slice ad n cap) (e0 ++ [(x, y)])) : ∃ b off, ad = some ⟨b, off, none⟩ ∧ ∀ w', Fr (· = M) w w' → w'.cell? ⟨b, off + e0.length * 2, none⟩ = some (.int .i64 x) := by
  obtain ⟨b, off, rfl, _, _⟩ := h.at (k := e0.length) (by simp)
  refine ⟨b, off, rfl, fun w' hb => ?_⟩
  obtain ⟨b', off', e, c0, _⟩ := (h.stay (kpFr hb)).at (k := e0.length) (by simp)
  cases e
  rw [List.getElem_concat_length rfl] at c0
  exact c0
theorem prodL_step (xs ys : List Int) {k : Nat} (hk : k < xs.length) : prodL (xs.take (k + 1)) ys = prodL (xs.take k) ys ++ ys.map fun b => (xs[k], b) := by
  unfold prodL; rw [List.take_succ_eq_append_getElem hk, List.flatMap_append]; simp
theorem prodL_mem {xs ys : List Int} {k j : Nat} (hk : k < xs.length) (hj : j < ys.length) : (xs[k], ys[j]) ∈ prodL xs ys := mem_prodL.2 ⟨List.getElem_mem hk, List.getElem_mem hj⟩
theorem map_step (x : Int) (ys : List Int) {j : Nat} (hj : j < ys.length) : (ys.take (j + 1)).map (fun b => (x, b)) = (ys.take j).map (fun b => (x, b)) ++ [(x, ys[j])] := by
  rw [List.take_succ_eq_append_getElem hj, List.map_append]; rfl
end Go.Proofs.Ytbcjhiponbfbnaa
