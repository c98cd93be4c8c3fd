/- Leading states: the plain law. No program. -/
import Derived.Test.YtofamhgkiipagaaAut
namespace Go.Proofs.Ytofamhgkiipagaa
/-- Some word of at most k letters leads to an end. -/
def ld (D : DfaD) (k s : Nat) : Prop := ∃ w : List (Fin 3), w.length ≤ k ∧ lg (dn D) (de D) s w = true
/-- Some word leads to an end. -/
def lead (D : DfaD) (s : Nat) : Prop := ∃ w : List (Fin 3), lg (dn D) (de D) s w = true
theorem ld_zero {D : DfaD} {s : Nat} : ld D 0 s ↔ de D s = true := by
  constructor
  · rintro ⟨w, h1, h2⟩
    have : w = [] := List.eq_nil_of_length_eq_zero (by omega)
    subst this
    exact h2
  · intro h
    exact ⟨[], by simp, h⟩
theorem ld_mono {D : DfaD} {j k s : Nat} (h : j ≤ k) : ld D j s → ld D k s := fun ⟨w, h1, h2⟩ => ⟨w, by omega, h2⟩
theorem ld_succ {D : DfaD} {k s : Nat} : ld D (k + 1) s ↔ ld D k s ∨ ∃ c, c < 3 ∧ ld D k (dn D s c) := by
  constructor
  · rintro ⟨w, h1, h2⟩
    cases w with
    | nil => exact .inl ⟨[], by simp, h2⟩
    | cons c w => exact .inr ⟨c.val, c.isLt, w, by simpa using h1, h2⟩
  · rintro (h | ⟨c, hc, w, h1, h2⟩)
    · exact ld_mono (by omega) h
    · exact ⟨⟨c, hc⟩ :: w, by simp; omega, h2⟩
theorem ld_lead {D : DfaD} {k s : Nat} (h : ld D k s) : lead D s := let ⟨w, _, h⟩ := h; ⟨w, h⟩
theorem lead_ld {D : DfaD} {s : Nat} (h : lead D s) : ∃ k, ld D k s := let ⟨w, h⟩ := h; ⟨w.length, w, Nat.le_refl _, h⟩
theorem lead_dn {D : DfaD} {s c : Nat} (hc : c < 3) (h : lead D (dn D s c)) : lead D s := let ⟨w, h⟩ := h; ⟨⟨c, hc⟩ :: w, h⟩
section
open Classical
theorem ld_stable {D : DfaD} (hD : okD D) {k : Nat} (h : ∀ s, s < D.1.length → ld D (k + 1) s → ld D k s) : ∀ j s, s < D.1.length → ld D (k + j) s → ld D k s
  | 0, _, _, h' => h'
  | j + 1, s, hs, h' => by
    rcases (ld_succ (k := k + j)).1 h' with h1 | ⟨c, hc, h1⟩
    · exact ld_stable hD h j s hs h1
    · exact h s hs (ld_succ.2 (.inr ⟨c, hc, ld_stable hD h j _ (dn_lt hD hs hc) h1⟩))
noncomputable def ldc (D : DfaD) (k : Nat) : Nat := (List.range D.1.length).countP (fun s => decide (ld D k s))
theorem ldc_lt {D : DfaD} {k : Nat} (h : ¬ ∀ s, s < D.1.length → ld D (k + 1) s → ld D k s) : ldc D k < ldc D (k + 1) := by
  refine countP_lt (fun x _ hx => decide_eq_true (ld_mono (by omega) (of_decide_eq_true hx))) ?_
  have : ∃ s, s < D.1.length ∧ ld D (k + 1) s ∧ ¬ ld D k s := by
    refine Classical.byContradiction fun hn => h fun s hs h1 => Classical.byContradiction fun h2 => hn ⟨s, hs, h1, h2⟩
  obtain ⟨s, h1, h2, h3⟩ := this
  exact ⟨s, List.mem_range.2 h1, decide_eq_true h2, decide_eq_false h3⟩
theorem ldc_le (D : DfaD) (k : Nat) : ldc D k ≤ D.1.length := by
  have := List.countP_le_length (p := fun s => decide (ld D k s)) (l := List.range D.1.length)
  simpa [ldc] using this
theorem lead_all {D : DfaD} (hD : okD D) {s : Nat} (hs : s < D.1.length) (h : lead D s) : ld D D.1.length s := by
  by_cases hst : ∃ k, k ≤ D.1.length ∧ ∀ s, s < D.1.length → ld D (k + 1) s → ld D k s
  · obtain ⟨k, hk, h1⟩ := hst
    obtain ⟨j, hj⟩ := lead_ld h
    exact ld_mono hk (ld_stable hD h1 j s hs (ld_mono (by omega) hj))
  · have key : ∀ k, k ≤ D.1.length + 1 → k ≤ ldc D k := by
      intro k
      induction k with
      | zero => intro _; omega
      | succ k ih =>
        intro hk
        have h1 := ih (by omega)
        have h2 := ldc_lt (D := D) (k := k) (fun h => hst ⟨k, by omega, h⟩)
        omega
    have h1 := key _ (Nat.le_refl _)
    have h2 := ldc_le D (D.1.length + 1)
    omega
/-- The mark of a leading state. -/
noncomputable def leadB (D : DfaD) (s : Nat) : Bool := decide (lead D s)
theorem leadB_iff {D : DfaD} {s : Nat} : leadB D s = true ↔ lead D s := decide_eq_true_iff
end
/-- One value turned. -/
def upd (o : Nat → Bool) (k : Nat) (b : Bool) (s : Nat) : Bool := if s = k then b else o s
theorem upd_same (o : Nat → Bool) (k : Nat) (b : Bool) : upd o k b k = b := if_pos rfl
theorem upd_ne (o : Nat → Bool) {k s : Nat} (b : Bool) (h : s ≠ k) : upd o k b s = o s := if_neg h
theorem upd_or {o : Nat → Bool} {k t : Nat} {b : Bool} (h : o t = true) : upd o k (o k || b) t = true := by
  by_cases e : t = k
  · subst e; rw [upd_same, h]; rfl
  · rw [upd_ne _ _ e]; exact h
/-- The program's rounds. -/
def LI (D : DfaD) (r s c : Nat) (o : Nat → Bool) : Prop :=
  (∀ t, t < D.1.length → o t = true → lead D t) ∧ (∀ t, t < D.1.length → ld D r t → o t = true) ∧ (∀ t, t < s → ld D (r + 1) t → o t = true) ∧ ∀ l, l < c → ld D r (dn D s l) → o s = true
theorem LI_start {D : DfaD} : LI D 0 0 0 (de D) :=
  ⟨fun t _ h => ⟨[], h⟩, fun t _ h => ld_zero.1 h, fun t h => absurd h (Nat.not_lt_zero _), fun l h => absurd h (Nat.not_lt_zero _)⟩
theorem LI_step {D : DfaD} (hD : okD D) {r s c : Nat} {o : Nat → Bool} (hs : s < D.1.length) (hc : c < 3) (h : LI D r s c o) : LI D r s (c + 1) (upd o s (o s || o (dn D s c))) := by
  obtain ⟨h1, h2, h3, h4⟩ := h
  refine ⟨fun t ht e => ?_, fun t ht e => upd_or (h2 t ht e), fun t ht e => upd_or (h3 t ht e), fun l hl e => ?_⟩
  · by_cases ets : t = s
    · subst ets
      rw [upd_same] at e
      rcases Bool.or_eq_true_iff.1 e with e | e
      · exact h1 t ht e
      · exact lead_dn hc (h1 _ (dn_lt hD ht hc) e)
    · rw [upd_ne _ _ ets] at e; exact h1 t ht e
  · rw [upd_same]
    rcases Nat.lt_succ_iff_lt_or_eq.1 hl with hl | rfl
    · rw [h4 l hl e]; rfl
    · rw [h2 _ (dn_lt hD hs hc) e, Bool.or_true]
theorem LI_row {D : DfaD} {r s : Nat} {o : Nat → Bool} (hs : s < D.1.length) (h : LI D r s 3 o) : LI D r (s + 1) 0 o := by
  obtain ⟨h1, h2, h3, h4⟩ := h
  refine ⟨h1, h2, fun t ht e => ?_, fun l h => absurd h (Nat.not_lt_zero _)⟩
  rcases Nat.lt_succ_iff_lt_or_eq.1 ht with ht | rfl
  · exact h3 t ht e
  · rcases ld_succ.1 e with e | ⟨c, hc, e⟩
    · exact h2 _ hs e
    · exact h4 c hc e
theorem LI_round {D : DfaD} {r : Nat} {o : Nat → Bool} (h : LI D r D.1.length 0 o) : LI D (r + 1) 0 0 o :=
  ⟨h.1, fun t ht e => h.2.2.1 t ht e, fun t h => absurd h (Nat.not_lt_zero _), fun l h => absurd h (Nat.not_lt_zero _)⟩
theorem LI_end {D : DfaD} (hD : okD D) {o : Nat → Bool} (h : LI D D.1.length 0 0 o) : ∀ s, s < D.1.length → o s = leadB D s := fun s hs => by
  rw [Bool.eq_iff_iff, leadB_iff]
  exact ⟨h.1 s hs, fun e => h.2.1 s hs (lead_all hD hs e)⟩
/-- The reference's rounds. -/
def UI (D : DfaD) (o0 : Nat → Bool) (k c : Nat) (ch : Bool) (o : Nat → Bool) : Prop :=
  (∀ t, t < D.1.length → o t = true → lead D t) ∧ (∀ t, t < D.1.length → de D t = true → o t = true) ∧ (∀ t, o0 t = true → o t = true) ∧
    (ch = true → ∃ t, t < D.1.length ∧ o t = true ∧ o0 t = false) ∧ (ch = false → (∀ t, t < k → ∀ l, l < 3 → o (dn D t l) = true → o t = true) ∧ ∀ l, l < c → o (dn D k l) = true → o k = true)
theorem UI_start {D : DfaD} {o : Nat → Bool} (h1 : ∀ t, t < D.1.length → o t = true → lead D t) (h2 : ∀ t, t < D.1.length → de D t = true → o t = true) : UI D o 0 0 false o :=
  ⟨h1, h2, fun _ h => h, nofun, fun _ => ⟨fun t h => absurd h (Nat.not_lt_zero _), fun l h => absurd h (Nat.not_lt_zero _)⟩⟩
theorem UI_no {D : DfaD} {o0 o : Nat → Bool} {k c : Nat} {ch : Bool} (h : UI D o0 k c ch o) (hn : o (dn D k c) = false) : UI D o0 k (c + 1) ch o := by
  obtain ⟨h1, h2, h3, h4, h5⟩ := h
  refine ⟨h1, h2, h3, h4, fun e => ⟨(h5 e).1, fun l hl e' => ?_⟩⟩
  rcases Nat.lt_succ_iff_lt_or_eq.1 hl with hl | rfl
  · exact (h5 e).2 l hl e'
  · rw [hn] at e'; cases e'
theorem UI_yes {D : DfaD} {o0 o : Nat → Bool} {k c : Nat} {ch : Bool} (hD : okD D) (hk : k < D.1.length) (hc : c < 3) (h : UI D o0 k c ch o) (hn : o k = false) (hy : o (dn D k c) = true) : UI D o0 k (c + 1) true (upd o k true) := by
  obtain ⟨h1, h2, h3, h4, h5⟩ := h
  have up : ∀ t, o t = true → upd o k true t = true := fun t e => by
    by_cases et : t = k
    · subst et; exact upd_same _ _ _
    · rw [upd_ne _ _ et]; exact e
  refine ⟨fun t ht e => ?_, fun t ht e => up t (h2 t ht e), fun t e => up t (h3 t e), fun _ => ?_, nofun⟩
  · by_cases et : t = k
    · subst et; exact lead_dn hc (h1 _ (dn_lt hD hk hc) hy)
    · rw [upd_ne _ _ et] at e; exact h1 t ht e
  · refine ⟨k, hk, upd_same _ _ _, ?_⟩
    cases h0 : o0 k with
    | false => rfl
    | true => have := h3 k h0; rw [hn] at this; cases this
theorem UI_row {D : DfaD} {o0 o : Nat → Bool} {k c : Nat} {ch : Bool} (h : UI D o0 k c ch o) (hc : c = 3 ∨ o k = true) : UI D o0 (k + 1) 0 ch o := by
  obtain ⟨h1, h2, h3, h4, h5⟩ := h
  refine ⟨h1, h2, h3, h4, fun e => ⟨fun t ht l hl e' => ?_, fun l h => absurd h (Nat.not_lt_zero _)⟩⟩
  rcases Nat.lt_succ_iff_lt_or_eq.1 ht with ht | rfl
  · exact (h5 e).1 t ht l hl e'
  · rcases hc with rfl | hc
    · exact (h5 e).2 l hl e'
    · exact hc
theorem UI_end {D : DfaD} {o0 o : Nat → Bool} (hD : okD D) (h : UI D o0 D.1.length 0 false o) : ∀ s, s < D.1.length → o s = leadB D s := by
  obtain ⟨h1, h2, _, _, h5⟩ := h
  have key : ∀ (w : List (Fin 3)) s, s < D.1.length → lg (dn D) (de D) s w = true → o s = true := by
    intro w
    induction w with
    | nil => intro s hs e; exact h2 s hs e
    | cons c w ih => intro s hs e; exact (h5 rfl).1 s hs c.val c.isLt (ih _ (dn_lt hD hs c.isLt) e)
  intro s hs
  rw [Bool.eq_iff_iff, leadB_iff]
  exact ⟨h1 s hs, fun ⟨w, e⟩ => key w s hs e⟩
/-- How many states are marked. -/
def cntB (n : Nat) (o : Nat → Bool) : Nat := (List.range n).countP o
theorem cntB_le (n : Nat) (o : Nat → Bool) : cntB n o ≤ n := by
  have := List.countP_le_length (p := o) (l := List.range n)
  simpa [cntB] using this
theorem UI_cnt {D : DfaD} {o0 o : Nat → Bool} {k c : Nat} (h : UI D o0 k c true o) : cntB D.1.length o0 < cntB D.1.length o := by
  obtain ⟨_, _, h3, h4, _⟩ := h
  obtain ⟨t, h5, h6, h7⟩ := h4 rfl
  exact countP_lt (fun x _ hx => h3 x hx) ⟨t, List.mem_range.2 h5, h6, h7⟩
/-- The automaton with the leading states as ends. -/
noncomputable def ledD (D : DfaD) : DfaD := (D.1, (List.range D.1.length).map (leadB D))
theorem led_ok {D : DfaD} (h : okD D) : okD (ledD D) := ⟨h.1, by simp [ledD], h.2.2⟩
/-- The automaton of the other words. -/
def othD (D : DfaD) : DfaD := (D.1, D.2.map (!·))
theorem oth_ok {D : DfaD} (h : okD D) : okD (othD D) := ⟨h.1, by simp [othD]; exact h.2.1, h.2.2⟩
end Go.Proofs.Ytofamhgkiipagaa
