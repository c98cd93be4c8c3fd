/- The first word of a language, shorter words first, letters in order among those of the same length. Plain. No condition. -/
import Derived.Test.YthdbgpdidolmaaaExq
namespace Go.Proofs.Ythdbgpdidolmaaa
/-- The word with the number n. -/
def wd : Nat → List (Fin 3)
  | 0 => []
  | n + 1 => wd (n / 3) ++ [Fin.ofNat 3 n]
termination_by n => n
decreasing_by omega
/-- The number of a word. -/
def key (w : List (Fin 3)) : Nat := w.foldl (fun n c => 3 * n + c.val + 1) 0
theorem key_snoc (w : List (Fin 3)) (c : Fin 3) : key (w ++ [c]) = 3 * key w + c.val + 1 := by simp [key, List.foldl_append]
theorem wd_zero : wd 0 = [] := by rw [wd]
theorem wd_succ (n : Nat) (c : Fin 3) : wd (3 * n + c.val + 1) = wd n ++ [c] := by
  rw [wd]
  have h1 : (3 * n + c.val) / 3 = n := by omega
  have h2 : Fin.ofNat 3 (3 * n + c.val) = c := by apply Fin.ext; simp only [Fin.ofNat]; omega
  rw [h1, h2]
theorem snocCases {p : List (Fin 3) → Prop} (h0 : p []) (h1 : ∀ w c, p w → p (w ++ [c])) (w : List (Fin 3)) : p w := by
  have key : ∀ n (w : List (Fin 3)), w.length = n → p w := by
    intro n
    induction n with
    | zero => intro w hw; have := List.eq_nil_of_length_eq_zero hw; subst this; exact h0
    | succ n ih =>
      intro w hw
      have hne : w ≠ [] := by intro e; subst e; simp at hw
      rw [← List.dropLast_concat_getLast hne]
      exact h1 _ _ (ih _ (by simp; omega))
  exact key _ w rfl
theorem wd_key (w : List (Fin 3)) : wd (key w) = w := by
  refine snocCases (p := fun w => wd (key w) = w) wd_zero (fun w c h => ?_) w
  rw [key_snoc, wd_succ, h]
theorem nat3 (n : Nat) : ∃ m, ∃ c : Fin 3, n + 1 = 3 * m + c.val + 1 ∧ m < n + 1 := ⟨n / 3, ⟨n % 3, by omega⟩, by simp only; omega, by omega⟩
theorem key_wd (n : Nat) : key (wd n) = n := by
  induction n using Nat.strongRecOn with
  | ind n ih =>
    cases n with
    | zero => rw [wd_zero]; rfl
    | succ n =>
      obtain ⟨m, c, e, hm⟩ := nat3 n
      rw [e, wd_succ, key_snoc, ih m hm]
/-- One letter. -/
def lt (c : Nat) : ByteArray := ⟨#[UInt8.ofNat (97 + c)]⟩
/-- The text of the word with the number n. -/
def wS : Nat → ByteArray
  | 0 => ByteArray.empty
  | n + 1 => wS (n / 3) ++ lt (n % 3)
termination_by n => n
decreasing_by omega
theorem wS_zero : wS 0 = ByteArray.empty := by rw [wS]
theorem wS_succ (n c : Nat) (hc : c < 3) : wS (3 * n + c + 1) = wS n ++ lt c := by
  rw [wS]
  have h1 : (3 * n + c) / 3 = n := by omega
  have h2 : (3 * n + c) % 3 = c := by omega
  rw [h1, h2]
section
variable {S : Type} [DecidableEq S] (nx : S → Nat → S) (en : S → Bool) (s0 : S)
/-- Where a word leads. -/
def go (s : S) (w : List (Fin 3)) : S := w.foldl (fun s c => nx s c.val) s
omit [DecidableEq S] in
theorem go_snoc (s : S) (w : List (Fin 3)) (c : Fin 3) : go nx s (w ++ [c]) = nx (go nx s w) c.val := by simp [go, List.foldl_append]
omit [DecidableEq S] in
theorem lg_go (w : List (Fin 3)) : ∀ s, lg nx en s w = en (go nx s w) := by
  induction w with
  | nil => intro s; rfl
  | cons c w ih => intro s; exact ih _
/-- The number of the first word that leads to t. -/
noncomputable def fk (t : S) : Nat := lst (fun n => go nx s0 (wd n) = t)
omit [DecidableEq S] in
theorem fk_le {n : Nat} {t : S} (h : go nx s0 (wd n) = t) : fk nx s0 t ≤ n := (lst_spec (p := fun n => go nx s0 (wd n) = t) h).1
omit [DecidableEq S] in
theorem fk_go {n : Nat} {t : S} (h : go nx s0 (wd n) = t) : go nx s0 (wd (fk nx s0 t)) = t := (lst_spec (p := fun n => go nx s0 (wd n) = t) h).2.1
omit [DecidableEq S] in
theorem fk_zero : fk nx s0 s0 = 0 := Nat.le_zero.1 (fk_le nx s0 (n := 0) (by rw [wd_zero]; rfl))
omit [DecidableEq S] in
theorem fk_next {s : S} {n : Nat} (h : go nx s0 (wd n) = s) (c : Nat) (hc : c < 3) : go nx s0 (wd (3 * n + c + 1)) = nx s c := by
  have := wd_succ n ⟨c, hc⟩
  simp only at this
  rw [this, go_snoc, h]
/-- Ascending by first words. -/
def Asc (M : List S) : Prop := M.Pairwise (fun a b => fk nx s0 a < fk nx s0 b)
/-- All of M can be reached. -/
def Rch (M : List S) : Prop := ∀ x ∈ M, go nx s0 (wd (fk nx s0 x)) = x
omit [DecidableEq S] in
theorem Asc.lt {M : List S} (h : Asc nx s0 M) {i j : Nat} (hi : i < M.length) (hj : j < M.length) (hij : fk nx s0 M[i] < fk nx s0 M[j]) : i < j := by
  rcases Nat.lt_trichotomy i j with h1 | h1 | h1
  · exact h1
  · subst h1; omega
  · have := List.pairwise_iff_getElem.1 h j i hj hi h1
    omega
theorem fk_low {k : Nat} (ha : Asc nx s0 (rnd nx s0 k)) (hk : k < (rnd nx s0 k).length) :
    ∀ n, n < fk nx s0 (rnd nx s0 k)[k] → ∃ j, ∃ h : j < (rnd nx s0 k).length, j < k ∧ (rnd nx s0 k)[j] = go nx s0 (wd n) := by
  intro n
  induction n using Nat.strongRecOn with
  | ind n ih =>
    intro hn
    cases n with
    | zero =>
      have hz := rnd_zero nx s0 k
      rw [List.getElem?_eq_getElem (rnd_pos nx s0 k)] at hz
      injection hz with hz
      refine ⟨0, rnd_pos nx s0 k, ?_, by rw [hz, wd_zero]; rfl⟩
      rcases Nat.eq_zero_or_pos k with h0 | h0
      · subst h0
        rw [hz, fk_zero] at hn
        omega
      · exact h0
    | succ n =>
      obtain ⟨m, c, e, hm⟩ := nat3 n
      obtain ⟨j, hj, hjk, hg⟩ := ih m hm (by omega)
      have hnx := rnd_next nx hjk hj
      have hmem : nx (rnd nx s0 k)[j] c.val ∈ rnd nx s0 k := by
        have : c.val = 0 ∨ c.val = 1 ∨ c.val = 2 := by omega
        rcases this with h | h | h <;> rw [h]
        · exact hnx.1
        · exact hnx.2.1
        · exact hnx.2.2
      obtain ⟨i, hi, hie⟩ := List.getElem_of_mem hmem
      have hgo : go nx s0 (wd (n + 1)) = (rnd nx s0 k)[i] := by rw [e, wd_succ, go_snoc, ← hg, hie]
      refine ⟨i, hi, ?_, hgo.symm⟩
      exact ha.lt nx s0 hi hk (Nat.lt_of_le_of_lt (fk_le nx s0 hgo) hn)
theorem fk_fresh {k c : Nat} (ha : Asc nx s0 (rnd nx s0 k)) (hr : Rch nx s0 (rnd nx s0 k)) (hk : k < (rnd nx s0 k).length) (hc : c < 3) (hf : nx (rnd nx s0 k)[k] c ∉ visN nx (rnd nx s0 k) (rnd nx s0 k)[k] c) :
    fk nx s0 (nx (rnd nx s0 k)[k] c) = 3 * fk nx s0 (rnd nx s0 k)[k] + c + 1 := by
  have hgk := hr _ (List.getElem_mem hk)
  have hg := fk_next nx s0 hgk c hc
  have hle := fk_le nx s0 hg
  refine Nat.le_antisymm hle (Nat.le_of_not_lt fun hlt => hf ?_)
  have hgt := fk_go nx s0 hg
  generalize fk nx s0 (nx (rnd nx s0 k)[k] c) = n at *
  have hpre : rnd nx s0 k <+: visN nx (rnd nx s0 k) (rnd nx s0 k)[k] c := visN_pre nx _ _ (Nat.zero_le c)
  cases n with
  | zero =>
    rw [wd_zero] at hgt
    rw [← hgt]
    refine hpre.subset ?_
    have hz := rnd_zero nx s0 k
    exact List.mem_of_getElem? hz
  | succ n =>
    obtain ⟨m, d, e, hm⟩ := nat3 n
    rw [e, wd_succ, go_snoc] at hgt
    rcases Nat.lt_or_ge m (fk nx s0 (rnd nx s0 k)[k]) with h1 | h1
    · obtain ⟨j, hj, hjk, hg'⟩ := fk_low nx s0 ha hk m h1
      have hnx := rnd_next nx hjk hj
      rw [← hgt, ← hg']
      refine hpre.subset ?_
      have : d.val = 0 ∨ d.val = 1 ∨ d.val = 2 := by omega
      rcases this with h | h | h <;> rw [h]
      · exact hnx.1
      · exact hnx.2.1
      · exact hnx.2.2
    · have hme : m = fk nx s0 (rnd nx s0 k)[k] := by omega
      rw [hme, hgk] at hgt
      have hdc : d.val < c := by omega
      rw [← hgt]
      exact (visN_pre nx _ _ (show d.val + 1 ≤ c by omega)).subset (visN_mem nx _ _ _)
theorem vis_asc {k : Nat} (ha : Asc nx s0 (rnd nx s0 k)) (hr : Rch nx s0 (rnd nx s0 k)) (hk : k < (rnd nx s0 k).length) (hb : ∀ x ∈ rnd nx s0 k, fk nx s0 x ≤ 3 * fk nx s0 (rnd nx s0 k)[k]) :
    ∀ c, c ≤ 3 → Asc nx s0 (visN nx (rnd nx s0 k) (rnd nx s0 k)[k] c) ∧ Rch nx s0 (visN nx (rnd nx s0 k) (rnd nx s0 k)[k] c) ∧ ∀ x ∈ visN nx (rnd nx s0 k) (rnd nx s0 k)[k] c, fk nx s0 x ≤ 3 * fk nx s0 (rnd nx s0 k)[k] + c := by
  intro c
  induction c with
  | zero => intro _; exact ⟨ha, hr, fun x hx => by have := hb x hx; omega⟩
  | succ c ih =>
    intro hc
    obtain ⟨h1, h2, h3⟩ := ih (by omega)
    show Asc nx s0 (vis _ _) ∧ Rch nx s0 (vis _ _) ∧ ∀ x ∈ vis _ _, _
    by_cases hm : nx (rnd nx s0 k)[k] c ∈ visN nx (rnd nx s0 k) (rnd nx s0 k)[k] c
    · rw [vis_old hm]
      exact ⟨h1, h2, fun x hx => by have := h3 x hx; omega⟩
    · rw [vis_new hm]
      have hf := fk_fresh nx s0 ha hr hk (by omega) hm
      refine ⟨?_, ?_, ?_⟩
      · unfold Asc
        rw [List.pairwise_append]
        refine ⟨h1, by simp, fun a hma b hmb => ?_⟩
        simp at hmb
        subst hmb
        have := h3 a hma
        rw [hf]; omega
      · intro x hx
        rcases List.mem_append.1 hx with hx | hx
        · exact h2 x hx
        · simp at hx; subst hx
          exact fk_go nx s0 (fk_next nx s0 (hr _ (List.getElem_mem hk)) c (by omega))
      · intro x hx
        rcases List.mem_append.1 hx with hx | hx
        · have := h3 x hx; omega
        · simp at hx; subst hx
          rw [hf]; omega
theorem rnd_asc (k : Nat) : Asc nx s0 (rnd nx s0 k) ∧ Rch nx s0 (rnd nx s0 k) ∧ ∀ i (hi : i < (rnd nx s0 k).length), k ≤ i → ∀ x ∈ rnd nx s0 k, fk nx s0 x ≤ 3 * fk nx s0 (rnd nx s0 k)[i] := by
  induction k with
  | zero =>
    refine ⟨List.pairwise_singleton _ _, fun x hx => ?_, fun i hi _ x hx => ?_⟩
    · simp [rnd] at hx; subst hx; rw [fk_zero, wd_zero]; rfl
    · simp [rnd] at hx; subst hx; rw [fk_zero]; omega
  | succ k ih =>
    obtain ⟨h1, h2, h3⟩ := ih
    rcases Nat.lt_or_ge k (rnd nx s0 k).length with hk | hk
    · obtain ⟨g1, g2, g3⟩ := vis_asc nx s0 h1 h2 hk (h3 k hk (Nat.le_refl _)) 3 (Nat.le_refl _)
      rw [visN_three, ← rnd_succ_some nx hk] at g1 g2 g3
      refine ⟨g1, g2, fun i hi hki x hx => ?_⟩
      have hx3 := g3 x hx
      have hp := rnd_pre nx s0 (show k ≤ k + 1 by omega)
      have hk' : k < (rnd nx s0 (k + 1)).length := by omega
      have e : (rnd nx s0 (k + 1))[k] = (rnd nx s0 k)[k] := by
        obtain ⟨t, ht⟩ := hp
        simp only [← ht]
        rw [List.getElem_append_left hk]
      have hlt := List.pairwise_iff_getElem.1 g1 k i hk' hi (by omega)
      rw [e] at hlt
      omega
    · rw [rnd_succ_none nx hk]
      exact ⟨h1, h2, fun i hi hki => by omega⟩
/-- What the search of round k, letter c has: ascending, reached, and the new one's number. -/
theorem fk_new {k c : Nat} (hk : k < (rnd nx s0 k).length) (hc : c < 3) (hf : nx (rnd nx s0 k)[k] c ∉ visN nx (rnd nx s0 k) (rnd nx s0 k)[k] c) :
    wS (fk nx s0 (nx (rnd nx s0 k)[k] c)) = wS (fk nx s0 (rnd nx s0 k)[k]) ++ lt c := by
  obtain ⟨h1, h2, _⟩ := rnd_asc nx s0 k
  rw [fk_fresh nx s0 h1 h2 hk hc hf, wS_succ _ _ hc]
end
section
variable {S : Type} [DecidableEq S] (nx : S → Nat → S) (s0 : S)
theorem vis_size {k : Nat} (hk : k < (rnd nx s0 k).length) (hb : ∀ x ∈ rnd nx s0 k, (wS (fk nx s0 x)).size ≤ (rnd nx s0 k).length) :
    ∀ c, c ≤ 3 → ∀ x ∈ visN nx (rnd nx s0 k) (rnd nx s0 k)[k] c, (wS (fk nx s0 x)).size ≤ (visN nx (rnd nx s0 k) (rnd nx s0 k)[k] c).length := by
  intro c
  induction c with
  | zero => intro _; exact hb
  | succ c ih =>
    intro hc
    have ih' := ih (by omega)
    show ∀ x ∈ vis _ _, _ ≤ (vis _ _).length
    by_cases hm : nx (rnd nx s0 k)[k] c ∈ visN nx (rnd nx s0 k) (rnd nx s0 k)[k] c
    · rw [vis_old hm]; exact ih'
    · rw [vis_new hm]
      intro x hx
      rw [List.length_append, List.length_singleton]
      rcases List.mem_append.1 hx with hx | hx
      · have := ih' x hx; omega
      · simp at hx; subst hx
        rw [fk_new nx s0 hk (by omega) hm, ByteArray.size_append]
        have h1 := ih' _ ((visN_pre nx _ _ (Nat.zero_le c)).subset (List.getElem_mem hk))
        have h2 : (lt c).size = 1 := rfl
        omega
theorem fk_size (k : Nat) : ∀ x ∈ rnd nx s0 k, (wS (fk nx s0 x)).size ≤ (rnd nx s0 k).length := by
  induction k with
  | zero => intro x hx; simp [rnd] at hx; subst hx; rw [fk_zero, wS_zero]; exact Nat.zero_le _
  | succ k ih =>
    rcases Nat.lt_or_ge k (rnd nx s0 k).length with hk | hk
    · rw [rnd_succ_some nx hk, ← visN_three]; exact vis_size nx s0 hk ih 3 (Nat.le_refl _)
    · rw [rnd_succ_none nx hk]; exact ih
end
/-- A language has a word. -/
def hasW (L : Lg) : Prop := ∃ w, L w = true
open Classical in
/-- The text of the first word. -/
noncomputable def fstW (L : Lg) : ByteArray := if hasW L then wS (lst (fun n => L (wd n) = true)) else ByteArray.empty
theorem fstW_no {L : Lg} (h : ¬ hasW L) : fstW L = ByteArray.empty := if_neg h
section
variable {S : Type} [DecidableEq S] (nx : S → Nat → S) (en : S → Bool) (s0 : S)
/-- The search stops at round k. -/
theorem fst_yes {k : Nat} (hk : k < (rnd nx s0 k).length) (hno : ∀ j (h : j < (rnd nx s0 k).length), j < k → en (rnd nx s0 k)[j] = false) (hy : en (rnd nx s0 k)[k] = true) :
    hasW (lg nx en s0) ∧ fstW (lg nx en s0) = wS (fk nx s0 (rnd nx s0 k)[k]) := by
  obtain ⟨h1, h2, _⟩ := rnd_asc nx s0 k
  have hg := h2 _ (List.getElem_mem hk)
  have hw : lg nx en s0 (wd (fk nx s0 (rnd nx s0 k)[k])) = true := by rw [lg_go, hg]; exact hy
  refine ⟨⟨_, hw⟩, ?_⟩
  unfold fstW
  rw [if_pos ⟨_, hw⟩]
  congr 1
  refine lst_eq hw fun n hn => ?_
  obtain ⟨j, hj, hjk, he⟩ := fk_low nx s0 h1 hk n hn
  rw [lg_go, ← he, hno j hj hjk]
  simp
/-- The search finds nothing. -/
theorem fst_no {k : Nat} (hk : (rnd nx s0 k).length ≤ k) (hno : ∀ j (h : j < (rnd nx s0 k).length), en (rnd nx s0 k)[j] = false) : ¬ hasW (lg nx en s0) := by
  have hall : ∀ w, go nx s0 w ∈ rnd nx s0 k := by
    intro w
    refine snocCases (p := fun w => go nx s0 w ∈ rnd nx s0 k) ?_ (fun w c h => ?_) w
    · exact List.mem_of_getElem? (rnd_zero nx s0 k)
    · rw [go_snoc]
      have h1 := rnd_closed nx hk _ h
      have : c.val = 0 ∨ c.val = 1 ∨ c.val = 2 := by omega
      rcases this with h2 | h2 | h2 <;> rw [h2]
      · exact h1.1
      · exact h1.2.1
      · exact h1.2.2
  rintro ⟨w, hw⟩
  rw [lg_go] at hw
  obtain ⟨j, hj, he⟩ := List.getElem_of_mem (hall w)
  rw [← he, hno j hj] at hw
  cases hw
end
end Go.Proofs.Ythdbgpdidolmaaa
