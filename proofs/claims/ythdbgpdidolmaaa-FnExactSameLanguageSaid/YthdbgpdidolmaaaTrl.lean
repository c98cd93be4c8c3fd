/- Laws of automata that are trimmed, and of the classes: no program. -/
import Derived.Test.YthdbgpdidolmaaaTrm
namespace Go.Proofs.Ythdbgpdidolmaaa
open Go.RowKit
set_option maxRecDepth 100000
section
variable {S : Type} [DecidableEq S] {nx : S → Nat → S} {en : S → Bool} {M : List S}
theorem aut_len : (autD nx en M).1.length = M.length := by simp [autD]
theorem aut_dn {i c : Nat} (hi : i < M.length) (hc : c < 3) : dn (autD nx en M) i c = M.idxOf (nx M[i] c) := by
  unfold dn autD
  simp only [List.getD_eq_getElem?_getD, List.getElem?_map, List.getElem?_eq_getElem hi, Option.map_some, Option.getD_some]
  rcases (by omega : c = 0 ∨ c = 1 ∨ c = 2) with rfl | rfl | rfl <;> simp
theorem aut_de {i : Nat} (hi : i < M.length) : de (autD nx en M) i = en M[i] := by
  unfold de autD
  simp [List.getD_eq_getElem?_getD, hi]
theorem aut_ok (h1 : 1 ≤ M.length) (h40 : M.length ≤ 40) (hcl : ∀ s ∈ M, nx s 0 ∈ M ∧ nx s 1 ∈ M ∧ nx s 2 ∈ M) : okD (autD nx en M) := by
  refine ⟨by rw [aut_len]; exact ⟨h1, h40⟩, by simp [autD], fun r hr => ?_⟩
  rw [aut_len]
  unfold autD at hr
  obtain ⟨s, hs, rfl⟩ := List.mem_map.1 hr
  refine ⟨rfl, fun x hx => ?_⟩
  have k := fun t (ht : t ∈ M) => List.idxOf_lt_length_of_mem ht
  obtain ⟨h0, h1, h2⟩ := hcl s hs
  have k0 := k _ h0
  have k1 := k _ h1
  have k2 := k _ h2
  simp at hx
  rcases hx with rfl | rfl | rfl <;> omega
theorem aut_lgs (hcl : ∀ s ∈ M, nx s 0 ∈ M ∧ nx s 1 ∈ M ∧ nx s 2 ∈ M) {i : Nat} (hi : i < M.length) : lg (dn (autD nx en M)) (de (autD nx en M)) i = lg nx en M[i] := by
  have hcl' : ∀ s ∈ M, ∀ c, c < 3 → nx s c ∈ M := fun s hs c hc => by
    rcases (by omega : c = 0 ∨ c = 1 ∨ c = 2) with rfl | rfl | rfl
    · exact (hcl s hs).1
    · exact (hcl s hs).2.1
    · exact (hcl s hs).2.2
  obtain ⟨d, _⟩ : ∃ d, d = M[i] := ⟨_, rfl⟩
  funext w
  have := lg_map (nx := dn (autD nx en M)) (ny := nx) (en := de (autD nx en M)) (em := en) (h := fun i => M.getD i d) (P := fun i => i < M.length)
    (fun i hi c hc => by rw [aut_dn hi hc]; exact List.idxOf_lt_length_of_mem (hcl' _ (List.getElem_mem hi) c hc))
    (fun i hi c hc => by
      rw [aut_dn hi hc]
      have hm := hcl' _ (List.getElem_mem hi) c hc
      have hl := List.idxOf_lt_length_of_mem hm
      simp only [List.getD_eq_getElem?_getD, List.getElem?_eq_getElem hl, List.getElem?_eq_getElem hi, Option.getD_some, List.getElem_idxOf])
    (fun i hi => by rw [aut_de hi]; simp [List.getD_eq_getElem?_getD, hi]) w i hi
  rw [this]
  simp [List.getD_eq_getElem?_getD, hi]
end
theorem trim_closed {D : DfaD} (hD : okD D) : ∀ s ∈ rnd (dn D) 0 D.1.length, dn D s 0 ∈ rnd (dn D) 0 D.1.length ∧ dn D s 1 ∈ rnd (dn D) 0 D.1.length ∧ dn D s 2 ∈ rnd (dn D) 0 D.1.length :=
  rnd_closed (dn D) (rnd_len_le (nx := dn D) hD.1.1 (dn_lt3 hD) _)
theorem trim_ok {D : DfaD} (hD : okD D) : okD (trimD D) :=
  aut_ok (rnd_pos _ _ _) (Nat.le_trans (rnd_len_le (nx := dn D) hD.1.1 (dn_lt3 hD) _) hD.1.2) (trim_closed hD)
theorem trim_lg {D : DfaD} (hD : okD D) : lgD (trimD D) = lgD D := by
  unfold lgD trimD
  rw [aut_lgs (trim_closed hD) (rnd_pos _ _ _)]
  have h0 := rnd_zero (dn D) 0 D.1.length
  rw [List.getElem?_eq_getElem (rnd_pos _ _ _)] at h0
  injection h0 with h0
  rw [h0]
/-- One row of the automaton of the classes. -/
noncomputable def rowC (T : DfaD) (s m : Nat) : List Int := (List.range m).map fun c => ((cn T s c : Nat) : Int)
theorem rowC_succ (T : DfaD) (s m : Nat) : rowC T s (m + 1) = rowC T s m ++ [((cn T s m : Nat) : Int)] := by simp [rowC, List.range_succ]
theorem rowC_len (T : DfaD) (s m : Nat) : (rowC T s m).length = m := by simp [rowC]
/-- The automaton of the classes. -/
noncomputable def smlD (T : DfaD) : DfaD := ((List.range T.1.length).map fun s => rowC T s 3, (List.range T.1.length).map (de T))
theorem sml_dn (T : DfaD) {s c : Nat} (hs : s < T.1.length) (hc : c < 3) : dn (smlD T) s c = cn T s c := by
  unfold dn smlD
  simp only [List.getD_eq_getElem?_getD, List.getElem?_map, List.getElem?_range hs, Option.map_some, Option.getD_some, rowC]
  simp [hc]
theorem sml_de (T : DfaD) {s : Nat} (hs : s < T.1.length) : de (smlD T) s = de T s := by
  unfold de smlD
  simp only [List.getD_eq_getElem?_getD, List.getElem?_map, List.getElem?_range hs, Option.map_some, Option.getD_some]
  rfl
theorem sml_len (T : DfaD) : (smlD T).1.length = T.1.length := by simp [smlD]
theorem sml_ok {T : DfaD} (hT : okD T) : okD (smlD T) := by
  refine ⟨by rw [sml_len]; exact hT.1, by simp [smlD], fun r hr => ?_⟩
  rw [sml_len]
  unfold smlD at hr
  obtain ⟨s, hs, rfl⟩ := List.mem_map.1 hr
  have hs' : s < T.1.length := List.mem_range.1 hs
  refine ⟨rowC_len T s 3, fun x hx => ?_⟩
  unfold rowC at hx
  obtain ⟨c, hc, rfl⟩ := List.mem_map.1 hx
  have := cn_lt T hT hs' (List.mem_range.1 hc)
  omega
theorem sml_lg {T : DfaD} (hT : okD T) {s : Nat} (hs : s < T.1.length) : lg (dn (smlD T)) (de (smlD T)) s = lg (dn T) (de T) s := by
  rw [← lg_cn T hT hs]
  funext w
  exact lg_map (nx := dn (smlD T)) (ny := cn T) (en := de (smlD T)) (em := de T) (h := fun s => s) (P := fun s => s < T.1.length) (fun s hs c hc => by rw [sml_dn T hs hc]; exact cn_lt T hT hs hc) (fun s hs c hc => sml_dn T hs hc) (fun s hs => sml_de T hs) w s hs
/-- The automaton of the classes, trimmed, is the smallest one. -/
theorem sml_trim {T : DfaD} (hT : okD T) : trimD (smlD T) = canon (lgD T) := by
  have hQ := sml_ok hT
  have h := canon_of (nx := dn (smlD T)) (en := de (smlD T)) (P := fun s => s < T.1.length ∧ cls T s = s) (s0 := 0) ⟨hT.1.1, cls_zero T⟩
    (fun s hs => ⟨by rw [sml_dn T hs.1 (by omega)]; exact ⟨cn_lt T hT hs.1 (by omega), cls_idem T _⟩, by rw [sml_dn T hs.1 (by omega)]; exact ⟨cn_lt T hT hs.1 (by omega), cls_idem T _⟩, by rw [sml_dn T hs.1 (by omega)]; exact ⟨cn_lt T hT hs.1 (by omega), cls_idem T _⟩⟩)
    (fun s t hs ht he => by
      rw [sml_lg hT hs.1, sml_lg hT ht.1] at he
      rw [← hs.2, ← ht.2]
      exact (cls_same T).2 he)
    (k := (smlD T).1.length) (rnd_len_le (nx := dn (smlD T)) (by rw [sml_len]; exact hT.1.1) (dn_lt3 hQ) _) (by rw [sml_len]; have := hT.1.2; omega)
  unfold trimD
  rw [h.1, sml_lg hT hT.1.1]
  rfl
theorem small_eq {D : DfaD} (hD : okD D) : trimD (smlD (trimD D)) = canon (lgD D) := by rw [sml_trim (trim_ok hD), trim_lg hD]
end Go.Proofs.Ythdbgpdidolmaaa
