/- Automata of any number of states, to be read. -/
import Derived.Test.YthdbgpdidolmaaaDfv
import Derived.Test.YthdbgpdidolmaaaTrl
namespace Go.Proofs.Ythdbgpdidolmaaa
open Go.RowKit
variable {S T : Nat → Prop}
/-- Complete, with marks, of any number of states. -/
def okG (D : DfaD) : Prop := 1 ≤ D.1.length ∧ D.2.length = D.1.length ∧ ∀ r ∈ D.1, r.length = 3 ∧ ∀ x ∈ r, 0 ≤ x ∧ x ≤ (D.1.length : Int) - 1
theorem okD.g {D : DfaD} (h : okD D) : okG D := ⟨h.1.1, h.2⟩
theorem aut_okG {α : Type} [DecidableEq α] {nx : α → Nat → α} {en : α → Bool} {M : List α} (h1 : 1 ≤ M.length) (hcl : ∀ s ∈ M, nx s 0 ∈ M ∧ nx s 1 ∈ M ∧ nx s 2 ∈ M) : okG (autD nx en M) := by
  refine ⟨by rw [aut_len]; exact h1, by simp [autD], fun r hr => ?_⟩
  rw [aut_len]
  unfold autD at hr
  obtain ⟨s, hs, rfl⟩ := List.mem_map.1 hr
  refine ⟨rfl, fun x hx => ?_⟩
  have k := fun t (ht : t ∈ M) => List.idxOf_lt_length_of_mem ht
  obtain ⟨h0, h1, h2⟩ := hcl s hs
  have k0 := k _ h0
  have k1 := k _ h1
  have k2 := k _ h2
  simp at hx
  rcases hx with rfl | rfl | rfl <;> omega
theorem dn_cellG {D : DfaD} (h : okG D) {s c : Nat} (hs : s < D.1.length) (hc : c < 3) : (D.1[s]).length = 3 ∧ (D.1[s])[c]'(by rw [(h.2.2 _ (List.getElem_mem hs)).1]; exact hc) = (dn D s c : Int) ∧ dn D s c < D.1.length := by
  have h1 := h.2.2 _ (List.getElem_mem hs)
  have h2 := h1.2 _ (List.getElem_mem (show c < (D.1[s]).length by rw [h1.1]; exact hc))
  have e : dn D s c = ((D.1[s])[c]'(by rw [h1.1]; exact hc)).toNat := by
    unfold dn
    simp only [List.getD_eq_getElem?_getD, List.getElem?_eq_getElem hs, Option.getD_some, List.getElem?_eq_getElem (show c < (D.1[s]).length by rw [h1.1]; exact hc)]
  exact ⟨h1.1, by rw [e]; omega, by rw [e]; omega⟩
theorem dn_ltG {D : DfaD} (h : okG D) {s c : Nat} (hs : s < D.1.length) (hc : c < 3) : dn D s c < D.1.length := (dn_cellG h hs hc).2.2
theorem de_cellG {D : DfaD} (h : okG D) {s : Nat} (hs : s < D.1.length) : D.2[s]'(by rw [h.2.1]; exact hs) = de D s := by
  unfold de
  rw [List.getD_eq_getElem?_getD, List.getElem?_eq_getElem (by rw [h.2.1]; exact hs), Option.getD_some]
theorem DfaR.rowG {w : World} {a : Option Addr} {n c : Nat} {ve : Value} {D : DfaD} (h : DfaR S w (.slice a n c) ve D) (hD : okG D) {x : Nat} (hx : x < D.1.length) :
    ∃ b o br or_ cr, a = some ⟨b, o, none⟩ ∧ w.cell? ⟨b, o + x, none⟩ = some (.slice (some ⟨br, or_, none⟩) 3 cr) ∧ Ints S w (.slice (some ⟨br, or_, none⟩) 3 cr) D.1[x] ∧
      ∀ l, l < 3 → w.cell? ⟨br, or_ + l, none⟩ = some (.int .i64 (dn D x l)) := by
  obtain ⟨b, o, v, e, hc, hv⟩ := IntSS.at h.1 hx
  obtain ⟨ar, cr, rfl, _⟩ := hv.shape
  have h3 := (dn_cellG hD hx (c := 0) (by omega)).1
  rw [h3] at hc hv
  obtain ⟨br, or_, rfl, _⟩ := Ints.at hv (k := 0) (by omega)
  refine ⟨b, o, br, or_, cr, e, hc, hv, fun l hl => ?_⟩
  obtain ⟨br', or', e', h2⟩ := Ints.at hv (k := l) (by omega)
  cases e'
  rw [h2, (dn_cellG hD hx hl).2.1]
theorem DfaR.markG {w : World} {a : Option Addr} {n c : Nat} {vn : Value} {D : DfaD} (h : DfaR S w vn (.slice a n c) D) (hD : okG D) {x : Nat} (hx : x < D.1.length) :
    ∃ b o, a = some ⟨b, o, none⟩ ∧ w.cell? ⟨b, o + x, none⟩ = some (.bool (de D x)) := by
  obtain ⟨b, o, e, hc⟩ := Bools.at h.2 (k := x) (by rw [hD.2.1]; exact hx)
  exact ⟨b, o, e, by rw [hc, de_cellG hD hx]⟩
end Go.Proofs.Ythdbgpdidolmaaa
