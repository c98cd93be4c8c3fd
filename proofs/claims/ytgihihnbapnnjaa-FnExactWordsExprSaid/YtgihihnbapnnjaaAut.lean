/- Automata as plain data: exploring from a first state, languages, the smallest automaton. No condition. -/
namespace Go.Proofs.Ytgihihnbapnnjaa

section explore
variable {S : Type} [DecidableEq S] (nx : S → Nat → S)
/-- A state is met. -/
def vis (M : List S) (t : S) : List S := if t ∈ M then M else M ++ [t]
/-- The next states of s are met, in order. -/
def vis3 (M : List S) (s : S) : List S := vis (vis (vis M (nx s 0)) (nx s 1)) (nx s 2)
/-- The states that are met before round k. -/
def rnd (s0 : S) : Nat → List S
  | 0 => [s0]
  | k + 1 => match (rnd s0 k)[k]? with
    | some s => vis3 nx (rnd s0 k) s
    | none => rnd s0 k
/-- The automaton of the states M. -/
def autD (en : S → Bool) (M : List S) : List (List Int) × List Bool :=
  (M.map fun s => [((M.idxOf (nx s 0) : Nat) : Int), ((M.idxOf (nx s 1) : Nat) : Int), ((M.idxOf (nx s 2) : Nat) : Int)], M.map en)

theorem mem_vis {M : List S} {t u : S} : u ∈ vis M t ↔ u ∈ M ∨ u = t := by
  unfold vis; split
  · constructor
    · exact .inl
    · rintro (h | rfl)
      · exact h
      · assumption
  · simp
theorem vis_pre (M : List S) (t : S) : M <+: vis M t := by
  unfold vis; split
  · exact List.prefix_rfl
  · exact List.prefix_append _ _
theorem vis_nodup {M : List S} {t : S} (h : M.Nodup) : (vis M t).Nodup := by
  unfold vis; split
  · exact h
  · rename_i hn
    rw [List.nodup_append]
    exact ⟨h, by simp, by rintro a ha b hb rfl; simp at hb; subst hb; exact hn ha⟩
theorem vis3_pre (M : List S) (s : S) : M <+: vis3 nx M s := (vis_pre _ _).trans ((vis_pre _ _).trans (vis_pre _ _))
theorem vis3_nodup {M : List S} {s : S} (h : M.Nodup) : (vis3 nx M s).Nodup := vis_nodup (vis_nodup (vis_nodup h))
theorem mem_vis3 {M : List S} {s u : S} : u ∈ vis3 nx M s ↔ u ∈ M ∨ u = nx s 0 ∨ u = nx s 1 ∨ u = nx s 2 := by
  unfold vis3; simp only [mem_vis]; constructor
  · rintro (((h | h) | h) | h) <;> simp [h]
  · rintro (h | h | h | h) <;> simp [h]
theorem rnd_succ_some {s0 : S} {k : Nat} (h : k < (rnd nx s0 k).length) : rnd nx s0 (k + 1) = vis3 nx (rnd nx s0 k) ((rnd nx s0 k)[k]) := by
  show (match (rnd nx s0 k)[k]? with | some s => vis3 nx (rnd nx s0 k) s | none => rnd nx s0 k) = _
  rw [List.getElem?_eq_getElem h]
theorem rnd_succ_none {s0 : S} {k : Nat} (h : (rnd nx s0 k).length ≤ k) : rnd nx s0 (k + 1) = rnd nx s0 k := by
  show (match (rnd nx s0 k)[k]? with | some s => vis3 nx (rnd nx s0 k) s | none => rnd nx s0 k) = _
  rw [List.getElem?_eq_none h]
theorem rnd_pre_succ (s0 : S) (k : Nat) : rnd nx s0 k <+: rnd nx s0 (k + 1) := by
  rcases Nat.lt_or_ge k (rnd nx s0 k).length with h | h
  · rw [rnd_succ_some nx h]; exact vis3_pre nx _ _
  · rw [rnd_succ_none nx h]; exact List.prefix_rfl
theorem rnd_pre (s0 : S) {j k : Nat} (h : j ≤ k) : rnd nx s0 j <+: rnd nx s0 k := by
  induction k with
  | zero => obtain rfl : j = 0 := by omega
            exact List.prefix_rfl
  | succ k ih =>
    rcases Nat.lt_or_ge j (k + 1) with h1 | h1
    · exact (ih (by omega)).trans (rnd_pre_succ nx s0 k)
    · obtain rfl : j = k + 1 := by omega
      exact List.prefix_rfl
theorem rnd_done {s0 : S} {k j : Nat} (h : (rnd nx s0 k).length ≤ k) (hj : k ≤ j) : rnd nx s0 j = rnd nx s0 k := by
  induction j with
  | zero => obtain rfl : k = 0 := by omega
            rfl
  | succ j ih =>
    rcases Nat.lt_or_ge k (j + 1) with h1 | h1
    · have := ih (by omega)
      rw [rnd_succ_none nx (by rw [this]; omega), this]
    · obtain rfl : k = j + 1 := by omega
      rfl
theorem rnd_nodup (s0 : S) (k : Nat) : (rnd nx s0 k).Nodup := by
  induction k with
  | zero => simp [rnd]
  | succ k ih =>
    rcases Nat.lt_or_ge k (rnd nx s0 k).length with h | h
    · rw [rnd_succ_some nx h]; exact vis3_nodup nx ih
    · rw [rnd_succ_none nx h]; exact ih
theorem rnd_pos (s0 : S) (k : Nat) : 0 < (rnd nx s0 k).length := by
  have := (rnd_pre nx s0 (Nat.zero_le k)).length_le
  have h1 : (rnd nx s0 0).length = 1 := rfl
  omega
theorem rnd_zero (s0 : S) (k : Nat) : (rnd nx s0 k)[0]? = some s0 := by
  have h := rnd_pre nx s0 (Nat.zero_le k)
  obtain ⟨t, ht⟩ := h
  rw [← ht]
  simp [rnd]
theorem rnd_all {P : S → Prop} {s0 : S} (h0 : P s0) (hs : ∀ s, P s → P (nx s 0) ∧ P (nx s 1) ∧ P (nx s 2)) (k : Nat) : ∀ s ∈ rnd nx s0 k, P s := by
  induction k with
  | zero => intro s hs; simp [rnd] at hs; subst hs; exact h0
  | succ k ih =>
    rcases Nat.lt_or_ge k (rnd nx s0 k).length with h | h
    · rw [rnd_succ_some nx h]
      intro s hm
      have h1 := hs _ (ih _ (List.getElem_mem h))
      rcases (mem_vis3 nx).1 hm with h2 | rfl | rfl | rfl
      · exact ih s h2
      · exact h1.1
      · exact h1.2.1
      · exact h1.2.2
    · rw [rnd_succ_none nx h]; exact ih
/-- What round j has looked at is met. -/
theorem rnd_next {s0 : S} {j k : Nat} (hjk : j < k) (hj : j < (rnd nx s0 k).length) : nx (rnd nx s0 k)[j] 0 ∈ rnd nx s0 k ∧ nx (rnd nx s0 k)[j] 1 ∈ rnd nx s0 k ∧ nx (rnd nx s0 k)[j] 2 ∈ rnd nx s0 k := by
  have hp := rnd_pre nx s0 (show j + 1 ≤ k by omega)
  have hp0 := rnd_pre nx s0 (show j ≤ k by omega)
  rcases Nat.lt_or_ge j (rnd nx s0 j).length with h | h
  · have e : (rnd nx s0 k)[j] = (rnd nx s0 j)[j] := by
      obtain ⟨t, ht⟩ := hp0
      simp only [← ht]
      rw [List.getElem_append_left h]
    rw [e]
    rw [rnd_succ_some nx h] at hp
    exact ⟨hp.subset ((mem_vis3 nx).2 (by simp)), hp.subset ((mem_vis3 nx).2 (by simp)), hp.subset ((mem_vis3 nx).2 (by simp))⟩
  · have := rnd_done nx h (show j ≤ k by omega)
    rw [this] at hj
    omega
/-- At its end the exploring is closed. -/
theorem rnd_closed {s0 : S} {k : Nat} (h : (rnd nx s0 k).length ≤ k) : ∀ s ∈ rnd nx s0 k, nx s 0 ∈ rnd nx s0 k ∧ nx s 1 ∈ rnd nx s0 k ∧ nx s 2 ∈ rnd nx s0 k := by
  intro s hs
  obtain ⟨j, hj, rfl⟩ := List.getElem_of_mem hs
  exact rnd_next nx (by omega) hj
end explore

theorem nodup_le {n : Nat} : ∀ {l : List Nat}, l.Nodup → (∀ x ∈ l, x < n) → l.length ≤ n := by
  induction n with
  | zero => intro l _ h; cases l with
    | nil => simp
    | cons a t => exact absurd (h a (by simp)) (Nat.not_lt_zero _)
  | succ n ih =>
    intro l hn h
    by_cases hm : n ∈ l
    · have h1 := ih (hn.erase n) (fun x hx => by
        have := (hn.mem_erase_iff).1 hx
        have := h x this.2
        have : x ≠ n := by simp_all
        omega)
      rw [List.length_erase_of_mem hm] at h1
      omega
    · have := ih hn (fun x hx => by
        have := h x hx
        have : x ≠ n := by rintro rfl; exact hm hx
        omega)
      omega

section natural
variable {S T : Type} [DecidableEq S] [DecidableEq T] {nx : S → Nat → S} {ny : T → Nat → T} {h : S → T} {P : S → Prop}
theorem vis_map (inj : ∀ s t, P s → P t → h s = h t → s = t) {M : List S} {t : S} (hM : ∀ s ∈ M, P s) (ht : P t) : (vis M t).map h = vis (M.map h) (h t) := by
  unfold vis
  have : h t ∈ M.map h ↔ t ∈ M := by
    rw [List.mem_map]
    exact ⟨fun ⟨a, ha, e⟩ => inj a t (hM a ha) ht e ▸ ha, fun ha => ⟨t, ha, rfl⟩⟩
  by_cases hm : t ∈ M
  · rw [if_pos hm, if_pos (this.2 hm)]
  · rw [if_neg hm, if_neg (fun hh => hm (this.1 hh))]; simp
theorem rnd_map (inj : ∀ s t, P s → P t → h s = h t → s = t) (hs : ∀ s, P s → P (nx s 0) ∧ P (nx s 1) ∧ P (nx s 2))
    (hom : ∀ s, P s → h (nx s 0) = ny (h s) 0 ∧ h (nx s 1) = ny (h s) 1 ∧ h (nx s 2) = ny (h s) 2) {s0 : S} (h0 : P s0) (k : Nat) : (rnd nx s0 k).map h = rnd ny (h s0) k := by
  induction k with
  | zero => rfl
  | succ k ih =>
    have hall := rnd_all nx h0 hs k
    have hlen : (rnd ny (h s0) k).length = (rnd nx s0 k).length := by rw [← ih, List.length_map]
    rcases Nat.lt_or_ge k (rnd nx s0 k).length with hk | hk
    · rw [rnd_succ_some nx hk, rnd_succ_some ny (by omega)]
      have e : (rnd ny (h s0) k)[k]'(by omega) = h ((rnd nx s0 k)[k]) := by
        simp only [← ih]; rw [List.getElem_map]
      rw [e]
      have hp := hall _ (List.getElem_mem hk)
      obtain ⟨p0, p1, p2⟩ := hs _ hp
      obtain ⟨q0, q1, q2⟩ := hom _ hp
      have m1 : ∀ s ∈ vis (rnd nx s0 k) (nx (rnd nx s0 k)[k] 0), P s := fun s hm => by
        rcases mem_vis.1 hm with hm | rfl
        · exact hall s hm
        · exact p0
      have m2 : ∀ s ∈ vis (vis (rnd nx s0 k) (nx (rnd nx s0 k)[k] 0)) (nx (rnd nx s0 k)[k] 1), P s := fun s hm => by
        rcases mem_vis.1 hm with hm | rfl
        · exact m1 s hm
        · exact p1
      unfold vis3
      rw [vis_map inj m2 p2, vis_map inj m1 p1, vis_map inj hall p0, ih, q0, q1, q2]
    · rw [rnd_succ_none nx hk, rnd_succ_none ny (by omega), ih]
theorem idxOf_map_inj (inj : ∀ s t, P s → P t → h s = h t → s = t) {M : List S} {t : S} (hM : ∀ s ∈ M, P s) (ht : P t) : (M.map h).idxOf (h t) = M.idxOf t := by
  induction M with
  | nil => rfl
  | cons a M ih =>
    rw [List.map_cons, List.idxOf_cons, List.idxOf_cons]
    have ha : (h a == h t) = (a == t) := by
      rw [Bool.eq_iff_iff]; simp only [beq_iff_eq]
      exact ⟨inj a t (hM a (by simp)) ht, fun e => by rw [e]⟩
    rw [ha, ih (fun s hs => hM s (by simp [hs]))]
theorem autD_map (inj : ∀ s t, P s → P t → h s = h t → s = t) (hs : ∀ s, P s → P (nx s 0) ∧ P (nx s 1) ∧ P (nx s 2))
    (hom : ∀ s, P s → h (nx s 0) = ny (h s) 0 ∧ h (nx s 1) = ny (h s) 1 ∧ h (nx s 2) = ny (h s) 2) {en : S → Bool} {em : T → Bool} (hen : ∀ s, P s → en s = em (h s)) {M : List S} (hM : ∀ s ∈ M, P s) :
    autD nx en M = autD ny em (M.map h) := by
  unfold autD
  rw [List.map_map, List.map_map]
  congr 1
  · apply List.map_congr_left
    intro s hm
    have hp := hM s hm
    obtain ⟨p0, p1, p2⟩ := hs _ hp
    obtain ⟨q0, q1, q2⟩ := hom _ hp
    simp only [Function.comp]
    rw [← q0, ← q1, ← q2, idxOf_map_inj inj hM p0, idxOf_map_inj inj hM p1, idxOf_map_inj inj hM p2]
  · apply List.map_congr_left
    intro s hm
    exact hen s (hM s hm)
end natural

/-- A language: which words of letters it has. -/
abbrev Lg := List (Fin 3) → Bool
/-- What may follow a letter. -/
def dv (L : Lg) (c : Nat) : Lg := fun w => L (Fin.ofNat 3 c :: w)
/-- The language from a state on. -/
def lg {S : Type} (nx : S → Nat → S) (en : S → Bool) (s : S) : Lg
  | [] => en s
  | c :: w => lg nx en (nx s c.val) w
theorem lg_dv {S : Type} (nx : S → Nat → S) (en : S → Bool) (s : S) {c : Nat} (hc : c < 3) : dv (lg nx en s) c = lg nx en (nx s c) := by
  funext w
  have : (Fin.ofNat 3 c).val = c := Nat.mod_eq_of_lt hc
  show lg nx en (nx s (Fin.ofNat 3 c).val) w = _
  rw [this]
theorem lg_nil {S : Type} (nx : S → Nat → S) (en : S → Bool) (s : S) : lg nx en s [] = en s := rfl
/-- Along a map that keeps moves and marks languages stay. -/
theorem lg_map {S T : Type} {nx : S → Nat → S} {ny : T → Nat → T} {en : S → Bool} {em : T → Bool} {h : S → T} {P : S → Prop} (hs : ∀ s, P s → ∀ c, c < 3 → P (nx s c))
    (hom : ∀ s, P s → ∀ c, c < 3 → h (nx s c) = ny (h s) c) (hen : ∀ s, P s → en s = em (h s)) : ∀ (w : List (Fin 3)) (s : S), P s → lg nx en s w = lg ny em (h s) w
  | [], s, hp => hen s hp
  | c :: w, s, hp => by
    show lg nx en (nx s c.val) w = lg ny em (ny (h s) c.val) w
    rw [← hom s hp c.val c.isLt]
    exact lg_map hs hom hen w _ (hs s hp _ c.isLt)

open Classical in
/-- The states of the smallest automaton of a language, as languages. -/
noncomputable def lgM (L : Lg) : List Lg := rnd dv L 2000
open Classical in
/-- The smallest automaton of a language. -/
noncomputable def canon (L : Lg) : List (List Int) × List Bool := autD dv (fun L => L []) (lgM L)

abbrev DfaD := List (List Int) × List Bool
/-- The next state. -/
def dn (D : DfaD) (s c : Nat) : Nat := ((D.1.getD s []).getD c 0).toNat
/-- The mark. -/
def de (D : DfaD) (s : Nat) : Bool := D.2.getD s false
/-- The automaton is valid. -/
def okD (D : DfaD) : Prop := (1 ≤ D.1.length ∧ D.1.length ≤ 40) ∧ D.2.length = D.1.length ∧ ∀ r ∈ D.1, r.length = 3 ∧ ∀ x ∈ r, 0 ≤ x ∧ x ≤ (D.1.length : Int) - 1
/-- Its language. -/
def lgD (D : DfaD) : Lg := lg (dn D) (de D) 0
theorem dn_cell {D : DfaD} (h : okD D) {s c : Nat} (hs : s < D.1.length) (hc : c < 3) : (D.1[s]).length = 3 ∧ (D.1[s])[c]'(by rw [(h.2.2 _ (List.getElem_mem hs)).1]; exact hc) = (dn D s c : Int) ∧ dn D s c < D.1.length := by
  have h1 := h.2.2 _ (List.getElem_mem hs)
  have h2 := h1.2 _ (List.getElem_mem (show c < (D.1[s]).length by rw [h1.1]; exact hc))
  have e : dn D s c = ((D.1[s])[c]'(by rw [h1.1]; exact hc)).toNat := by
    unfold dn
    simp only [List.getD_eq_getElem?_getD, List.getElem?_eq_getElem hs, Option.getD_some, List.getElem?_eq_getElem (show c < (D.1[s]).length by rw [h1.1]; exact hc)]
  exact ⟨h1.1, by rw [e]; omega, by rw [e]; omega⟩
theorem dn_lt {D : DfaD} (h : okD D) {s c : Nat} (hs : s < D.1.length) (hc : c < 3) : dn D s c < D.1.length := (dn_cell h hs hc).2.2
theorem dn_lt3 {D : DfaD} (h : okD D) (s : Nat) (hs : s < D.1.length) : dn D s 0 < D.1.length ∧ dn D s 1 < D.1.length ∧ dn D s 2 < D.1.length := ⟨dn_lt h hs (by omega), dn_lt h hs (by omega), dn_lt h hs (by omega)⟩
theorem de_cell {D : DfaD} (h : okD D) {s : Nat} (hs : s < D.1.length) : D.2[s]'(by rw [h.2.1]; exact hs) = de D s := by
  unfold de
  rw [List.getD_eq_getElem?_getD, List.getElem?_eq_getElem (by rw [h.2.1]; exact hs), Option.getD_some]

theorem rnd_len_le {n : Nat} {nx : Nat → Nat → Nat} {s0 : Nat} (h0 : s0 < n) (hs : ∀ s, s < n → nx s 0 < n ∧ nx s 1 < n ∧ nx s 2 < n) (k : Nat) : (rnd nx s0 k).length ≤ n :=
  nodup_le (rnd_nodup nx s0 k) (rnd_all nx (P := (· < n)) h0 hs k)

/-- A map of states to languages that keeps apart what is met: the automaton that is explored is the smallest one. -/
theorem canon_of {S : Type} [DecidableEq S] {nx : S → Nat → S} {en : S → Bool} {P : S → Prop} {s0 : S} (h0 : P s0) (hs : ∀ s, P s → P (nx s 0) ∧ P (nx s 1) ∧ P (nx s 2))
    (inj : ∀ s t, P s → P t → lg nx en s = lg nx en t → s = t) {k : Nat} (hk : (rnd nx s0 k).length ≤ k) (hk2 : k ≤ 2000) :
    autD nx en (rnd nx s0 k) = canon (lg nx en s0) ∧ (rnd nx s0 k).map (lg nx en) = lgM (lg nx en s0) := by
  classical
  have hom : ∀ s, P s → lg nx en (nx s 0) = dv (lg nx en s) 0 ∧ lg nx en (nx s 1) = dv (lg nx en s) 1 ∧ lg nx en (nx s 2) = dv (lg nx en s) 2 :=
    fun s _ => ⟨(lg_dv nx en s (by omega)).symm, (lg_dv nx en s (by omega)).symm, (lg_dv nx en s (by omega)).symm⟩
  have e1 : (rnd nx s0 k).map (lg nx en) = lgM (lg nx en s0) := by
    unfold lgM
    rw [← rnd_map inj hs hom h0 2000, rnd_done nx hk hk2]
  refine ⟨?_, e1⟩
  rw [autD_map (en := en) inj hs hom (em := fun L => L []) (fun s _ => rfl) (rnd_all nx h0 hs k), e1]
  rfl

theorem exists_least (p : Nat → Prop) : ∀ n, p n → ∃ m, m ≤ n ∧ p m ∧ ∀ j, j < m → ¬ p j := by
  intro n
  induction n using Nat.strongRecOn with
  | ind n ih =>
    intro hn
    by_cases h : ∃ j, j < n ∧ p j
    · obtain ⟨j, hj, hp⟩ := h
      obtain ⟨m, h1, h2⟩ := ih j hj hp
      exact ⟨m, by omega, h2⟩
    · exact ⟨n, Nat.le_refl n, hn, fun j hj hp => h ⟨j, hj, hp⟩⟩
open Classical in
/-- The least number of which p holds. -/
noncomputable def lst (p : Nat → Prop) : Nat := if h : ∃ n, p n ∧ ∀ j, j < n → ¬ p j then Classical.choose h else 0
theorem lst_spec {p : Nat → Prop} {n : Nat} (hn : p n) : lst p ≤ n ∧ p (lst p) ∧ ∀ j, j < lst p → ¬ p j := by
  obtain ⟨m, h1, h2⟩ := exists_least p n hn
  have h : ∃ n, p n ∧ ∀ j, j < n → ¬ p j := ⟨m, h2⟩
  have e : lst p = Classical.choose h := by unfold lst; rw [dif_pos h]
  have hs := Classical.choose_spec h
  rw [← e] at hs
  refine ⟨?_, hs⟩
  rcases Nat.lt_or_ge n (lst p) with h1 | h1
  · exact absurd hn (hs.2 n h1)
  · exact h1
theorem lst_eq {p : Nat → Prop} {m : Nat} (h : p m) (hl : ∀ j, j < m → ¬ p j) : lst p = m := by
  obtain ⟨h1, h2, h3⟩ := lst_spec h
  rcases Nat.lt_or_ge (lst p) m with h4 | h4
  · exact absurd h2 (hl _ h4)
  · omega

section minimal
variable (D : DfaD)
/-- States that no word of at most k letters tells apart. -/
def eqv (k s t : Nat) : Prop := ∀ w : List (Fin 3), w.length ≤ k → lg (dn D) (de D) s w = lg (dn D) (de D) t w
theorem eqv_refl (k s : Nat) : eqv D k s s := fun _ _ => rfl
theorem eqv_symm {k s t : Nat} (h : eqv D k s t) : eqv D k t s := fun w hw => (h w hw).symm
theorem eqv_trans {k s t u : Nat} (h : eqv D k s t) (h' : eqv D k t u) : eqv D k s u := fun w hw => (h w hw).trans (h' w hw)
theorem eqv_zero {s t : Nat} : eqv D 0 s t ↔ de D s = de D t := by
  constructor
  · intro h; exact h [] (Nat.le_refl _)
  · intro h w hw
    cases w with
    | nil => exact h
    | cons a w => simp at hw
theorem eqv_succ {k s t : Nat} : eqv D (k + 1) s t ↔ eqv D k s t ∧ eqv D k (dn D s 0) (dn D t 0) ∧ eqv D k (dn D s 1) (dn D t 1) ∧ eqv D k (dn D s 2) (dn D t 2) := by
  constructor
  · intro h
    exact ⟨fun w hw => h w (by omega), fun w hw => h (0 :: w) (by simpa using hw), fun w hw => h (1 :: w) (by simpa using hw), fun w hw => h (2 :: w) (by simpa using hw)⟩
  · rintro ⟨h, h0, h1, h2⟩ w hw
    cases w with
    | nil => exact h [] (Nat.zero_le _)
    | cons c w =>
      have hw' : w.length ≤ k := by simpa using hw
      show lg (dn D) (de D) (dn D s c.val) w = lg (dn D) (de D) (dn D t c.val) w
      have : c = 0 ∨ c = 1 ∨ c = 2 := by omega
      rcases this with rfl | rfl | rfl
      · exact h0 w hw'
      · exact h1 w hw'
      · exact h2 w hw'
/-- If nothing new is told apart, nothing ever is. -/
theorem eqv_stable (hD : okD D) {k : Nat} (h : ∀ s t, s < D.1.length → t < D.1.length → eqv D k s t → eqv D (k + 1) s t) {s t : Nat} (hs : s < D.1.length) (ht : t < D.1.length) (he : eqv D k s t) :
    lg (dn D) (de D) s = lg (dn D) (de D) t := by
  have key : ∀ (w : List (Fin 3)) s t, s < D.1.length → t < D.1.length → eqv D k s t → lg (dn D) (de D) s w = lg (dn D) (de D) t w := by
    intro w
    induction w with
    | nil => intro s t _ _ he; exact he [] (Nat.zero_le _)
    | cons c w ih =>
      intro s t hs ht he
      have h1 := (eqv_succ D).1 (h s t hs ht he)
      show lg (dn D) (de D) (dn D s c.val) w = lg (dn D) (de D) (dn D t c.val) w
      refine ih _ _ (dn_lt hD hs c.isLt) (dn_lt hD ht c.isLt) ?_
      have : c = 0 ∨ c = 1 ∨ c = 2 := by omega
      rcases this with rfl | rfl | rfl
      · exact h1.2.1
      · exact h1.2.2.1
      · exact h1.2.2.2
  funext w
  exact key w s t hs ht he
theorem eqv_of_lg {k s t : Nat} (h : lg (dn D) (de D) s = lg (dn D) (de D) t) : eqv D k s t := fun w _ => by rw [h]
/-- The first state of the class after k rounds. -/
noncomputable def fc (k s : Nat) : Nat := lst (fun t => eqv D k t s)
theorem fc_le (k s : Nat) : fc D k s ≤ s := (lst_spec (p := fun t => eqv D k t s) (eqv_refl D k s)).1
theorem fc_eqv (k s : Nat) : eqv D k (fc D k s) s := (lst_spec (p := fun t => eqv D k t s) (eqv_refl D k s)).2.1
theorem fc_least (k s : Nat) {j : Nat} (h : j < fc D k s) : ¬ eqv D k j s := (lst_spec (p := fun t => eqv D k t s) (eqv_refl D k s)).2.2 j h
theorem fc_eq {k s m : Nat} (h : eqv D k m s) (hl : ∀ j, j < m → ¬ eqv D k j s) : fc D k s = m := lst_eq h hl
theorem fc_same {k s t : Nat} : fc D k s = fc D k t ↔ eqv D k s t := by
  constructor
  · intro h
    exact eqv_trans D (eqv_symm D (fc_eqv D k s)) (h ▸ fc_eqv D k t)
  · intro h
    refine fc_eq D (eqv_trans D (fc_eqv D k t) (eqv_symm D h)) fun j hj he => ?_
    exact fc_least D k t hj (eqv_trans D he h)
theorem fc_idem (k s : Nat) : fc D k (fc D k s) = fc D k s := (fc_same D).2 (fc_eqv D k s)
/-- How many classes there are after k rounds. -/
noncomputable def nc (k : Nat) : Nat := (List.range D.1.length).countP (fun s => decide (fc D k s = s))
theorem nc_le (k : Nat) : nc D k ≤ D.1.length := by
  unfold nc
  have := List.countP_le_length (p := fun s => decide (fc D k s = s)) (l := List.range D.1.length)
  simpa using this
theorem countP_lt {α : Type} {p q : α → Bool} : ∀ {l : List α}, (∀ x ∈ l, p x = true → q x = true) → (∃ x ∈ l, q x = true ∧ p x = false) → l.countP p < l.countP q
  | [], _, ⟨x, hx, _⟩ => by simp at hx
  | a :: l, h, ⟨x, hx, h1, h2⟩ => by
    have hm : l.countP p ≤ l.countP q := List.countP_mono_left (fun x hx => h x (by simp [hx]))
    rw [List.countP_cons, List.countP_cons]
    rcases List.mem_cons.1 hx with rfl | hx
    · rw [h1, h2]; simp; omega
    · have := countP_lt (l := l) (fun x hx => h x (by simp [hx])) ⟨x, hx, h1, h2⟩
      have ha := h a (by simp)
      cases hp : p a <;> cases hq : q a <;> simp_all <;> omega
theorem fc_fix_mono {k s : Nat} (h : fc D k s = s) : fc D (k + 1) s = s := by
  refine fc_eq D (eqv_refl D _ s) fun j hj he => ?_
  exact fc_least D k s (by omega) ((eqv_succ D).1 he).1
/-- A round that changes something makes a class more. -/
theorem nc_lt {k : Nat} (h : ¬ ∀ s, s < D.1.length → fc D k s = fc D (k + 1) s) : nc D k < nc D (k + 1) := by
  unfold nc
  refine countP_lt (fun x _ hx => ?_) ?_
  · simp only [decide_eq_true_eq] at hx ⊢
    exact fc_fix_mono D hx
  · have : ∃ s, s < D.1.length ∧ fc D k s ≠ fc D (k + 1) s := by
      apply Classical.byContradiction
      intro hn
      exact h fun s hs => Classical.byContradiction fun he => hn ⟨s, hs, he⟩
    obtain ⟨s, hs, hne⟩ := this
    refine ⟨fc D (k + 1) s, List.mem_range.2 (Nat.lt_of_le_of_lt (fc_le D _ s) hs), ?_, ?_⟩
    · simp only [decide_eq_true_eq]; exact fc_idem D _ s
    · simp only [decide_eq_false_iff_not]
      intro he
      have h1 : fc D k (fc D (k + 1) s) = fc D k s := (fc_same D).2 ((eqv_succ D).1 (fc_eqv D (k + 1) s)).1
      rw [h1] at he
      exact hne he
theorem fc_stable_eqv {k : Nat} (h : ∀ s, s < D.1.length → fc D k s = fc D (k + 1) s) {s t : Nat} (hs : s < D.1.length) (ht : t < D.1.length) (he : eqv D k s t) : eqv D (k + 1) s t := by
  rw [← fc_same D] at he ⊢
  rw [← h s hs, ← h t ht]; exact he
/-- The first state with the same language. -/
noncomputable def cls (s : Nat) : Nat := lst (fun t => lg (dn D) (de D) t = lg (dn D) (de D) s)
theorem cls_le (s : Nat) : cls D s ≤ s := (lst_spec (p := fun t => lg (dn D) (de D) t = lg (dn D) (de D) s) rfl).1
theorem cls_lg (s : Nat) : lg (dn D) (de D) (cls D s) = lg (dn D) (de D) s := (lst_spec (p := fun t => lg (dn D) (de D) t = lg (dn D) (de D) s) rfl).2.1
theorem cls_same {s t : Nat} : cls D s = cls D t ↔ lg (dn D) (de D) s = lg (dn D) (de D) t := by
  constructor
  · intro h; rw [← cls_lg D s, h, cls_lg D t]
  · intro h; unfold cls; rw [h]
theorem cls_idem (s : Nat) : cls D (cls D s) = cls D s := (cls_same D).2 (cls_lg D s)
theorem cls_zero : cls D 0 = 0 := Nat.le_zero.1 (cls_le D 0)
theorem fc_cls (hD : okD D) {k : Nat} (h : ∀ s t, s < D.1.length → t < D.1.length → eqv D k s t → eqv D (k + 1) s t) {s : Nat} (hs : s < D.1.length) : fc D k s = cls D s := by
  have h1 := eqv_stable D hD h (Nat.lt_of_le_of_lt (fc_le D k s) hs) hs (fc_eqv D k s)
  refine (lst_eq (p := fun t => lg (dn D) (de D) t = lg (dn D) (de D) s) h1 fun j hj he => ?_).symm
  exact fc_least D k s hj (eqv_of_lg D he)

/-- Moves from class to class. -/
noncomputable def cn (s c : Nat) : Nat := cls D (dn D s c)
theorem cn_lt (hD : okD D) {s c : Nat} (hs : s < D.1.length) (hc : c < 3) : cn D s c < D.1.length := Nat.lt_of_le_of_lt (cls_le D _) (dn_lt hD hs hc)
theorem lg_cn (hD : okD D) {s : Nat} (hs : s < D.1.length) : lg (cn D) (de D) s = lg (dn D) (de D) s := by
  have key : ∀ (w : List (Fin 3)) s, s < D.1.length → lg (cn D) (de D) s w = lg (dn D) (de D) s w := by
    intro w
    induction w with
    | nil => intro s _; rfl
    | cons c w ih =>
      intro s hs
      show lg (cn D) (de D) (cn D s c.val) w = lg (dn D) (de D) (dn D s c.val) w
      rw [ih _ (cn_lt D hD hs c.isLt)]
      unfold cn
      rw [cls_lg]
  funext w
  exact key w s hs
/-- The automaton of the classes is the smallest one. -/
theorem canon_cn (hD : okD D) {k : Nat} (hk : (rnd (cn D) 0 k).length ≤ k) (hk2 : k ≤ 2000) : autD (cn D) (de D) (rnd (cn D) 0 k) = canon (lgD D) := by
  have h := canon_of (nx := cn D) (en := de D) (P := fun s => s < D.1.length ∧ cls D s = s) (s0 := 0) ⟨hD.1.1, cls_zero D⟩
    (fun s hs => ⟨⟨cn_lt D hD hs.1 (by omega), cls_idem D _⟩, ⟨cn_lt D hD hs.1 (by omega), cls_idem D _⟩, ⟨cn_lt D hD hs.1 (by omega), cls_idem D _⟩⟩)
    (fun s t hs ht he => by rw [lg_cn D hD hs.1, lg_cn D hD ht.1] at he; rw [← hs.2, ← ht.2]; exact (cls_same D).2 he) hk hk2
  rw [h.1, lg_cn D hD hD.1.1]
  rfl
end minimal
end Go.Proofs.Ytgihihnbapnnjaa
