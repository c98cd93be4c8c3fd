/- The longest words of a language, by states. Plain. No condition.
Leading states: the program's and the reference's.
The longest words: the program's and the reference's. -/
import Derived.Laws.OwnMore
import Derived.Deep.LoopGhost
import Derived.StillTailTactics
import Derived.Test.YtcbhfopabgiiiaaGA
import Derived.Test.YtcbhfopabgiiiaaGB
import Derived.Test.YtcbhfopabgiiiaaSml
import Derived.Test.YtcbhfopabgiiiaaGG
set_option linter.unusedSimpArgs false
set_option linter.unusedVariables false
set_option linter.unusedSectionVars false
namespace Go.Proofs.Ytcbhfopabgiiiaa
/-- There is a word of m letters. -/
def hasLen (L : Lg) (m : Nat) : Prop := ∃ w : List (Fin 3), w.length = m ∧ L w = true
/-- There are infinitely many words. -/
def unb (L : Lg) : Prop := ∀ m, ∃ k, m ≤ k ∧ hasLen L k
/-- The number that LongestLength has for a language. -/
def Lng (L : Lg) (r : Int) : Prop := (r = -2 ∧ ¬ hasW L) ∨ (r = -1 ∧ unb L) ∨ (∃ m : Nat, r = m ∧ hasLen L m ∧ ∀ k, hasLen L k → k ≤ m)
open Classical in
noncomputable def lngL (L : Lg) : Int := if hasW L then (if unb L then -1 else (lst (fun m => ∀ k, hasLen L k → k ≤ m) : Nat)) else -2
theorem hasLen_W {L : Lg} {m : Nat} (h : hasLen L m) : hasW L := let ⟨w, _, h⟩ := h; ⟨w, h⟩
theorem Lng_eq {L : Lg} {r : Int} (h : Lng L r) : r = lngL L := by
  unfold lngL
  rcases h with ⟨rfl, h⟩ | ⟨rfl, h⟩ | ⟨m, rfl, h1, h2⟩
  · rw [if_neg h]
  · obtain ⟨k, _, hk⟩ := h 0
    rw [if_pos (hasLen_W hk), if_pos h]
  · have hnu : ¬ unb L := fun hu => by
      obtain ⟨k, hk, hl⟩ := hu (m + 1)
      have := h2 k hl
      omega
    rw [if_pos (hasLen_W h1), if_neg hnu]
    congr 1
    exact (lst_eq (p := fun m => ∀ k, hasLen L k → k ≤ m) h2 fun j hj hh => by have := hh m h1; omega).symm
section
variable {nx : Nat → Nat → Nat} {en : Nat → Bool} {s0 n : Nat}
theorem go_append (nx : Nat → Nat → Nat) (s : Nat) (u v : List (Fin 3)) : go nx s (u ++ v) = go nx (go nx s u) v := by simp [go, List.foldl_append]
theorem go_lt (h0 : s0 < n) (hs : ∀ s, s < n → ∀ c, c < 3 → nx s c < n) (w : List (Fin 3)) : go nx s0 w < n :=
  snocCases (p := fun w => go nx s0 w < n) h0 (fun w c h => by rw [go_snoc]; exact hs _ h _ c.isLt) w
/-- A long word runs through a state twice. -/
theorem pump (h0 : s0 < n) (hs : ∀ s, s < n → ∀ c, c < 3 → nx s c < n) (w : List (Fin 3)) (hw : n ≤ w.length) :
    ∃ x y z, w = x ++ y ++ z ∧ 1 ≤ y.length ∧ x.length + y.length ≤ n ∧ go nx s0 (x ++ y) = go nx s0 x := by
  apply Classical.byContradiction
  intro hno
  have hnd : ((List.range (n + 1)).map (fun i => go nx s0 (w.take i))).Nodup := by
    refine List.pairwise_iff_getElem.2 fun i j hi hj hij he => hno ?_
    simp only [List.length_map, List.length_range] at hi hj
    simp only [List.getElem_map, List.getElem_range] at he
    refine ⟨w.take i, (w.take j).drop i, w.drop j, ?_, ?_, ?_, ?_⟩
    · have : w.take i = (w.take j).take i := by rw [List.take_take, Nat.min_eq_left (by omega)]
      rw [this, List.take_append_drop, List.take_append_drop]
    · simp only [List.length_drop, List.length_take]; omega
    · simp only [List.length_drop, List.length_take]; omega
    · have : w.take i = (w.take j).take i := by rw [List.take_take, Nat.min_eq_left (by omega)]
      rw [this, List.take_append_drop, ← this, he]
  have := nodup_le (n := n) hnd (fun x hx => by
    obtain ⟨i, _, rfl⟩ := List.mem_map.1 hx
    exact go_lt h0 hs _)
  simp only [List.length_map, List.length_range] at this
  omega
theorem pump_up (h0 : s0 < n) (hs : ∀ s, s < n → ∀ c, c < 3 → nx s c < n) {m : Nat} (hm : n ≤ m) (h : hasLen (lg nx en s0) m) : unb (lg nx en s0) := by
  intro k
  induction k with
  | zero => exact ⟨m, by omega, h⟩
  | succ k ih =>
    have ih' : ∃ j, k ≤ j ∧ n ≤ j ∧ hasLen (lg nx en s0) j := by
      obtain ⟨j, hj, hl⟩ := ih
      rcases Nat.lt_or_ge j n with h1 | h1
      · exact ⟨m, by omega, hm, h⟩
      · exact ⟨j, hj, h1, hl⟩
    obtain ⟨j, hj, hnj, w, hw, hl⟩ := ih'
    obtain ⟨x, y, z, rfl, hy, _, he⟩ := pump h0 hs w (by omega)
    refine ⟨(x ++ y ++ y ++ z).length, ?_, x ++ y ++ y ++ z, rfl, ?_⟩
    · simp only [List.length_append] at hw ⊢; omega
    · rw [lg_go] at hl ⊢
      rw [go_append, go_append (u := x ++ y), he, ← go_append nx s0 x y, ← go_append]
      exact hl
theorem pump_down (h0 : s0 < n) (hs : ∀ s, s < n → ∀ c, c < 3 → nx s c < n) : ∀ m, n ≤ m → hasLen (lg nx en s0) m → ∃ k, n ≤ k ∧ k ≤ 2 * n ∧ hasLen (lg nx en s0) k := by
  intro m
  induction m using Nat.strongRecOn with
  | ind m ih =>
    intro hm h
    rcases Nat.lt_or_ge (2 * n) m with h1 | h1
    · obtain ⟨w, hw, hl⟩ := h
      obtain ⟨x, y, z, rfl, hy, hxy, he⟩ := pump h0 hs w (by omega)
      simp only [List.length_append] at hw
      refine ih (x.length + z.length) (by omega) (by omega) ⟨x ++ z, by simp, ?_⟩
      rw [lg_go] at hl ⊢
      rw [go_append, he] at hl
      rw [go_append]
      exact hl
    · exact ⟨m, hm, h1, h⟩
/-- What the program finds among the words of at most 2n letters. -/
theorem lng_prog (h0 : s0 < n) (hs : ∀ s, s < n → ∀ c, c < 3 → nx s c < n) {r : Int}
    (h : (r = -2 ∧ ∀ k, k ≤ 2 * n → ¬ hasLen (lg nx en s0) k) ∨ ∃ m : Nat, r = m ∧ m ≤ 2 * n ∧ hasLen (lg nx en s0) m ∧ ∀ k, k ≤ 2 * n → hasLen (lg nx en s0) k → k ≤ m) :
    Lng (lg nx en s0) (if (n : Int) ≤ r then -1 else r) := by
  rcases h with ⟨rfl, h⟩ | ⟨m, rfl, hm, h1, h2⟩
  · rw [if_neg (by omega)]
    refine .inl ⟨rfl, fun ⟨w, hw⟩ => ?_⟩
    rcases Nat.lt_or_ge (2 * n) w.length with h1 | h1
    · obtain ⟨k, _, hk, hl⟩ := pump_down h0 hs w.length (by omega) ⟨w, rfl, hw⟩
      exact h k hk hl
    · exact h _ h1 ⟨w, rfl, hw⟩
  · by_cases hn : n ≤ m
    · rw [if_pos (by omega)]
      exact .inr (.inl ⟨rfl, pump_up h0 hs hn h1⟩)
    · rw [if_neg (by omega)]
      refine .inr (.inr ⟨m, rfl, h1, fun k hk => ?_⟩)
      rcases Nat.lt_or_ge (2 * n) k with h3 | h3
      · obtain ⟨j, hj, hj2, hl⟩ := pump_down h0 hs k (by omega) hk
        have := h2 j hj2 hl
        omega
      · exact h2 k h3 hk
end
section
variable (D : DfaD)
/-- The letters' lengths by useful states, after the first c letters. -/
noncomputable def bsC (f : Nat → Nat) (s : Nat) : Nat → Nat
  | 0 => 0
  | c + 1 => if leadB D s && leadB D (dn D s c) then max (bsC f s c) (f (dn D s c) + 1) else bsC f s c
/-- After r rounds. -/
noncomputable def bs : Nat → Nat → Nat
  | 0, _ => 0
  | r + 1, s => bsC D (bs r) s 3
theorem bs_three (r s : Nat) : bsC D (bs D r) s 3 = bs D (r + 1) s := rfl
theorem bsC_le (f : Nat → Nat) (s : Nat) {b : Nat} (h : ∀ c, c < 3 → f (dn D s c) + 1 ≤ b) : ∀ c, c ≤ 3 → bsC D f s c ≤ b
  | 0, _ => Nat.zero_le _
  | c + 1, hc => by
    have := bsC_le f s h c (by omega)
    have := h c (by omega)
    show (if _ then _ else _) ≤ b
    split
    · exact Nat.max_le.2 ⟨by omega, by omega⟩
    · omega
theorem bs_le (r s : Nat) : bs D r s ≤ r := by
  induction r generalizing s with
  | zero => exact Nat.le_refl _
  | succ r ih => exact bsC_le D _ s (fun c _ => by have := ih (dn D s c); omega) 3 (Nat.le_refl _)
theorem bsC_ge (f : Nat → Nat) (s : Nat) {d : Nat} (hs : leadB D s = true) (hd : leadB D (dn D s d) = true) : ∀ c, d < c → f (dn D s d) + 1 ≤ bsC D f s c
  | 0, h => absurd h (Nat.not_lt_zero _)
  | c + 1, h => by
    show _ ≤ (if _ then _ else _)
    rcases Nat.lt_or_ge d c with h1 | h1
    · have h2 := bsC_ge f s hs hd c h1
      split
      · exact Nat.le_trans h2 (Nat.le_max_left _ _)
      · exact h2
    · obtain rfl : d = c := by omega
      rw [if_pos (by rw [hs, hd]; rfl)]
      exact Nat.le_max_right _ _
theorem bsC_cases (f : Nat → Nat) (s : Nat) : ∀ c, bsC D f s c = 0 ∨ ∃ d, d < c ∧ leadB D s = true ∧ leadB D (dn D s d) = true ∧ bsC D f s c = f (dn D s d) + 1
  | 0 => .inl rfl
  | c + 1 => by
    by_cases hl : (leadB D s && leadB D (dn D s c)) = true
    · have e : bsC D f s (c + 1) = max (bsC D f s c) (f (dn D s c) + 1) := if_pos hl
      rw [Bool.and_eq_true] at hl
      rw [e]
      rcases Nat.lt_or_ge (f (dn D s c) + 1) (bsC D f s c) with h1 | h1
      · rw [Nat.max_eq_left (by omega)]
        rcases bsC_cases f s c with h2 | ⟨d, hd, h3⟩
        · exact .inl h2
        · exact .inr ⟨d, by omega, h3⟩
      · rw [Nat.max_eq_right h1]
        exact .inr ⟨c, by omega, hl.1, hl.2, rfl⟩
    · have e : bsC D f s (c + 1) = bsC D f s c := if_neg hl
      rw [e]
      rcases bsC_cases f s c with h2 | ⟨d, hd, h3⟩
      · exact .inl h2
      · exact .inr ⟨d, by omega, h3⟩
theorem bsC_off (f : Nat → Nat) {s : Nat} (h : leadB D s = false) : ∀ c, bsC D f s c = 0
  | 0 => rfl
  | c + 1 => by
    have e : bsC D f s (c + 1) = bsC D f s c := if_neg (by rw [h]; simp)
    rw [e]; exact bsC_off f h c
theorem bsC_no (f : Nat → Nat) {s c : Nat} (h : leadB D (dn D s c) = false) : bsC D f s (c + 1) = bsC D f s c := if_neg (by rw [h]; simp)
theorem bsC_yes (f : Nat → Nat) {s c : Nat} (h1 : leadB D s = true) (h2 : leadB D (dn D s c) = true) : bsC D f s (c + 1) = max (bsC D f s c) (f (dn D s c) + 1) := if_pos (by rw [h1, h2]; rfl)
theorem lead_go (u : List (Fin 3)) : ∀ {s}, lead D (go (dn D) s u) → lead D s := by
  induction u with
  | nil => intro s h; exact h
  | cons c u ih => intro s h; exact lead_dn c.isLt (ih h)
/-- There is a way of that many letters by useful states. -/
theorem bs_way (r : Nat) : ∀ s, lead D s → ∃ u : List (Fin 3), u.length = bs D r s ∧ lead D (go (dn D) s u) := by
  induction r with
  | zero => intro s h; exact ⟨[], rfl, h⟩
  | succ r ih =>
    intro s h
    rcases bsC_cases D (bs D r) s 3 with h1 | ⟨d, hd, _, hl, he⟩
    · exact ⟨[], h1.symm, h⟩
    · obtain ⟨u, hu, hg⟩ := ih (dn D s d) (leadB_iff.1 hl)
      exact ⟨⟨d, hd⟩ :: u, by show u.length + 1 = bsC D (bs D r) s 3; omega, hg⟩
/-- There is none longer. -/
theorem bs_max (r : Nat) : ∀ s (u : List (Fin 3)), u.length ≤ r → lead D (go (dn D) s u) → u.length ≤ bs D r s := by
  induction r with
  | zero => intro s u hu _; omega
  | succ r ih =>
    intro s u hu hl
    cases u with
    | nil => exact Nat.zero_le _
    | cons c u =>
      have hl' : lead D (go (dn D) (dn D s c.val) u) := hl
      have h1 := ih (dn D s c.val) u (by simpa using hu) hl'
      have h2 := lead_go D u hl'
      have h3 := bsC_ge D (bs D r) s (leadB_iff.2 (lead_dn c.isLt h2)) (leadB_iff.2 h2) 3 c.isLt
      show u.length + 1 ≤ bsC D (bs D r) s 3
      omega
theorem lead_zero : lead D 0 ↔ hasW (lgD D) := Iff.rfl
/-- What the reference finds. -/
theorem lng_ref (hD : okD D) : Lng (lgD D) (if leadB D 0 = true then (if (D.1.length : Int) ≤ (bs D (D.1.length + 1) 0 : Int) then -1 else (bs D (D.1.length + 1) 0 : Int)) else -2) := by
  have h0 : 0 < D.1.length := hD.1.1
  have hs : ∀ s, s < D.1.length → ∀ c, c < 3 → dn D s c < D.1.length := fun s hs c hc => dn_lt hD hs hc
  by_cases hl : leadB D 0 = true
  · rw [if_pos hl]
    have hl' := leadB_iff.1 hl
    obtain ⟨u, hu, hg⟩ := bs_way D (D.1.length + 1) 0 hl'
    obtain ⟨v, hv⟩ := hg
    have hacc : lgD D (u ++ v) = true := by
      unfold lgD
      rw [lg_go, go_append, ← lg_go (dn D) (de D) v]; exact hv
    by_cases hn : D.1.length ≤ bs D (D.1.length + 1) 0
    · rw [if_pos (by omega)]
      exact .inr (.inl ⟨rfl, pump_up (m := (u ++ v).length) h0 hs (by simp; omega) ⟨u ++ v, rfl, hacc⟩⟩)
    · rw [if_neg (by omega)]
      have hv0 : v = [] := by
        cases v with
        | nil => rfl
        | cons c v =>
          exfalso
          have h1 : lead D (go (dn D) 0 (u ++ [c])) := by
            rw [go_append]
            exact ⟨v, hv⟩
          have := bs_max D (D.1.length + 1) 0 (u ++ [c]) (by simp; omega) h1
          simp at this
          omega
      subst hv0
      rw [List.append_nil] at hacc
      refine .inr (.inr ⟨bs D (D.1.length + 1) 0, rfl, ⟨u, hu, hacc⟩, fun k ⟨w, hw, hL⟩ => ?_⟩)
      subst hw
      rcases Nat.lt_or_ge (D.1.length + 1) w.length with h1 | h1
      · exfalso
        have h2 : lead D (go (dn D) 0 (w.take (D.1.length + 1))) := by
          refine ⟨w.drop (D.1.length + 1), ?_⟩
          rw [lg_go, ← go_append, List.take_append_drop, ← lg_go (dn D) (de D) w]; exact hL
        have := bs_max D (D.1.length + 1) 0 _ (by simp; omega) h2
        simp at this
        omega
      · refine bs_max D (D.1.length + 1) 0 w h1 ⟨[], ?_⟩
        unfold lgD at hL
        rw [lg_go] at hL
        exact hL
  · rw [if_neg hl]
    exact .inl ⟨rfl, fun h => hl (leadB_iff.2 h)⟩
/-- The states that words of m letters lead to. -/
def rB : Nat → Nat → Bool
  | 0, t => t == 0
  | m + 1, t => (List.range D.1.length).any fun s => rB m s && (List.range 3).any fun c => dn D s c == t
theorem rB_iff (hD : okD D) (m : Nat) : ∀ t, rB D m t = true ↔ ∃ w : List (Fin 3), w.length = m ∧ go (dn D) 0 w = t := by
  induction m with
  | zero =>
    intro t
    show (t == 0) = true ↔ _
    rw [beq_iff_eq]
    constructor
    · rintro rfl; exact ⟨[], rfl, rfl⟩
    · rintro ⟨w, hw, rfl⟩
      have := List.eq_nil_of_length_eq_zero hw
      subst this; rfl
  | succ m ih =>
    intro t
    show ((List.range D.1.length).any fun s => rB D m s && (List.range 3).any fun c => dn D s c == t) = true ↔ _
    rw [List.any_eq_true]
    constructor
    · rintro ⟨s, hs, h⟩
      rw [Bool.and_eq_true, List.any_eq_true] at h
      obtain ⟨h1, c, hc, h2⟩ := h
      obtain ⟨w, hw, he⟩ := (ih s).1 h1
      refine ⟨w ++ [⟨c, List.mem_range.1 hc⟩], by simp [hw], ?_⟩
      rw [go_snoc, he]; exact beq_iff_eq.1 h2
    · rintro ⟨w, hw, rfl⟩
      have hne : w ≠ [] := by intro e; subst e; simp at hw
      have hlt := go_lt (nx := dn D) (s0 := 0) hD.1.1 (fun s hs c hc => dn_lt hD hs hc) w.dropLast
      refine ⟨go (dn D) 0 w.dropLast, List.mem_range.2 hlt, ?_⟩
      rw [Bool.and_eq_true, List.any_eq_true]
      refine ⟨(ih _).2 ⟨w.dropLast, by simp; omega, rfl⟩, (w.getLast hne).val, List.mem_range.2 (w.getLast hne).isLt, ?_⟩
      rw [beq_iff_eq, ← go_snoc (dn D) 0 w.dropLast (w.getLast hne), List.dropLast_concat_getLast]
theorem rB_len (hD : okD D) (m : Nat) : hasLen (lgD D) m ↔ ∃ s, s < D.1.length ∧ rB D m s = true ∧ de D s = true := by
  constructor
  · rintro ⟨w, hw, hL⟩
    unfold lgD at hL
    rw [lg_go] at hL
    exact ⟨_, go_lt (nx := dn D) (s0 := 0) hD.1.1 (fun s hs c hc => dn_lt hD hs hc) w, (rB_iff D hD m _).2 ⟨w, hw, rfl⟩, hL⟩
  · rintro ⟨s, _, hr, he⟩
    obtain ⟨w, hw, rfl⟩ := (rB_iff D hD m s).1 hr
    exact ⟨w, hw, by unfold lgD; rw [lg_go]; exact he⟩
/-- The states that the first k states have led to, and state k by the first c letters. -/
def nB (m k c t : Nat) : Bool := ((List.range k).any fun s => rB D m s && (List.range 3).any fun c => dn D s c == t) || (rB D m k && (List.range c).any fun c => dn D k c == t)
theorem nB_start (m : Nat) : ∀ t, nB D m 0 0 t = false := fun t => by simp [nB]
theorem nB_next {m k c : Nat} (hk : rB D m k = true) : ∀ t, upd (nB D m k c) (dn D k c) true t = nB D m k (c + 1) t := fun t => by
  by_cases e : t = dn D k c
  · subst e; rw [upd_same]; simp [nB, hk, List.range_succ]
  · rw [upd_ne _ _ e]
    have : (dn D k c == t) = false := by simp; exact fun h => e h.symm
    simp [nB, hk, List.range_succ, this]
theorem nB_row {m k : Nat} : ∀ t, nB D m k 3 t = nB D m (k + 1) 0 t := fun t => by simp [nB, List.range_succ]
theorem nB_skip {m k : Nat} (hk : rB D m k = false) : ∀ t, nB D m k 0 t = nB D m (k + 1) 0 t := fun t => by simp [nB, hk, List.range_succ]
theorem nB_end {m : Nat} : ∀ t, nB D m D.1.length 0 t = rB D (m + 1) t := fun t => by simp [nB, rB]
/-- The longest one so far: the words of fewer than m letters, and those of m letters that lead to the first k states. -/
def LgI (m k : Nat) (r : Int) : Prop :=
  (r = -2 ∧ (∀ i, i < m → ¬ hasLen (lgD D) i) ∧ ∀ s, s < k → rB D m s = true → de D s = false) ∨
  (∃ j : Nat, r = j ∧ (j ≤ m ∧ (j = m → 0 < k)) ∧ hasLen (lgD D) j ∧ (∀ i, i < m → hasLen (lgD D) i → i ≤ j) ∧ ∀ s, s < k → rB D m s = true → de D s = true → j = m)
variable {D}
theorem LgI_start : LgI D 0 0 (-2) := .inl ⟨rfl, fun j hj => absurd hj (Nat.not_lt_zero _), fun s hs => absurd hs (Nat.not_lt_zero _)⟩
theorem LgI_skip {m k : Nat} {r : Int} (h : LgI D m k r) (hk : rB D m k = false ∨ de D k = false) : LgI D m (k + 1) r := by
  have key : ∀ s, s < k + 1 → rB D m s = true → de D s = true → s < k := fun s hs h1 h2 => by
    rcases Nat.lt_succ_iff_lt_or_eq.1 hs with h3 | rfl
    · exact h3
    · rcases hk with h3 | h3 <;> simp_all
  rcases h with ⟨rfl, h1, h2⟩ | ⟨j, rfl, h1, h2, h3, h4⟩
  · refine .inl ⟨rfl, h1, fun s hs hr => ?_⟩
    cases hd : de D s with
    | false => rfl
    | true => have := h2 s (key s hs hr hd) hr; rw [hd] at this; exact this
  · exact .inr ⟨j, rfl, ⟨h1.1, fun _ => Nat.succ_pos _⟩, h2, h3, fun s hs hr hd => h4 s (key s hs hr hd) hr hd⟩
theorem LgI_hit {m k : Nat} (hD : okD D) (hk : k < D.1.length) (h1 : rB D m k = true) (h2 : de D k = true) : LgI D m (k + 1) (m : Int) := by
  have hm : hasLen (lgD D) m := (rB_len D hD m).2 ⟨k, hk, h1, h2⟩
  exact .inr ⟨m, rfl, ⟨Nat.le_refl _, fun _ => Nat.succ_pos _⟩, hm, fun i hi _ => by omega, fun _ _ _ _ => rfl⟩
theorem LgI_round {m : Nat} {r : Int} (hD : okD D) (h : LgI D m D.1.length r) : LgI D (m + 1) 0 r := by
  rcases h with ⟨rfl, h1, h2⟩ | ⟨j, rfl, h1, h2, h3, h4⟩
  · refine .inl ⟨rfl, fun j hj hl => ?_, fun s hs => absurd hs (Nat.not_lt_zero _)⟩
    rcases Nat.lt_succ_iff_lt_or_eq.1 hj with h3 | rfl
    · exact h1 j h3 hl
    · obtain ⟨s, hs, hr, he⟩ := (rB_len D hD j).1 hl
      rw [h2 s hs hr] at he; cases he
  · refine .inr ⟨j, rfl, ⟨by omega, fun e => by omega⟩, h2, fun i hi hl => ?_, fun s hs => absurd hs (Nat.not_lt_zero _)⟩
    rcases Nat.lt_succ_iff_lt_or_eq.1 hi with h5 | rfl
    · exact h3 i h5 hl
    · obtain ⟨s, hs, hr, he⟩ := (rB_len D hD i).1 hl
      have := h4 s hs hr he
      omega
theorem LgI_end {r : Int} (hD : okD D) (h : LgI D (2 * D.1.length + 1) 0 r) : (if (D.1.length : Int) ≤ r then -1 else r) = lngL (lgD D) := by
  refine Lng_eq (lng_prog (nx := dn D) (en := de D) (s0 := 0) (n := D.1.length) hD.1.1 (fun s hs c hc => dn_lt hD hs hc) ?_)
  rcases h with ⟨rfl, h1, _⟩ | ⟨j, rfl, ⟨h1, h1'⟩, h2, h3, _⟩
  · exact .inl ⟨rfl, fun k hk => h1 k (by omega)⟩
  · exact .inr ⟨j, rfl, by omega, h2, fun k hk hl => h3 k (by omega) hl⟩
theorem LgI_le {m k : Nat} {r : Int} (h : LgI D m k r) : -2 ≤ r ∧ r ≤ m := by
  rcases h with ⟨rfl, _⟩ | ⟨j, rfl, h1, _⟩ <;> omega
end
end Go.Proofs.Ytcbhfopabgiiiaa
namespace Go.Proofs.Ytcbhfopabgiiiaa
open Go.RowKit
set_option maxRecDepth 100000
variable {S T : Nat → Prop}
/-- The first n marks. -/
def fB (n : Nat) (o : Nat → Bool) : List Value := (List.range n).map fun s => .bool (o s)
theorem fB_len (n : Nat) (o : Nat → Bool) : (fB n o).length = n := by simp [fB]
theorem fB_get {n s : Nat} (o : Nat → Bool) (h : s < n) : (fB n o)[s]? = some (.bool (o s)) := by simp [fB, h]
theorem fB_set (n : Nat) (o : Nat → Bool) (k : Nat) (b : Bool) : (fB n o).set k (.bool b) = fB n (upd o k b) := by
  apply List.ext_getElem (by simp [fB])
  intro i h1 h2
  have hi : i < n := by rw [fB_len] at h2; exact h2
  by_cases e : k = i
  · subst e
    rw [List.getElem_set_self]
    simp [fB, upd_same]
  · rw [List.getElem_set_ne e]
    simp [fB, upd_ne o b (Ne.symm e)]
theorem fB_congr {n : Nat} {o o' : Nat → Bool} (h : ∀ s, s < n → o s = o' s) : fB n o = fB n o' := by
  unfold fB
  exact List.map_congr_left fun s hs => by rw [h s (List.mem_range.1 hs)]
theorem fB_de {D : DfaD} (hD : okD D) : D.2.map Value.bool = fB D.1.length (de D) := by
  apply List.ext_getElem (by rw [List.length_map, fB_len, hD.2.1])
  intro i h1 h2
  have hi : i < D.1.length := by rw [fB_len] at h2; exact h2
  rw [List.getElem_map, de_cell hD hi]
  simp [fB]
theorem own_fB {w : World} {base g n cap : Nat} {o : Nat → Bool} (ho : w.ownsRow base 4 1 (.slice (some ⟨g, 0, none⟩) n cap) n (fB n o)) {s : Nat} (hs : s < n) :
    w.cell? ⟨g, s, none⟩ = some (.bool (o s)) := by rw [ho.cellAt s (by omega), fB_get o hs]
theorem own_upd {w : World} {base g n cap : Nat} {o : Nat → Bool} (ho : w.ownsRow base 4 1 (.slice (some ⟨g, 0, none⟩) n cap) n (fB n o)) (k : Nat) (b : Bool) :
    (w.setCell ⟨g, k, none⟩ (.bool b)).ownsRow base 4 1 (.slice (some ⟨g, 0, none⟩) n cap) n (fB n (upd o k b)) := by
  have := (ho.stored k (.bool b)).1
  rwa [fB_set] at this
set_option maxHeartbeats 2000000 in
theorem l14Useful_c (vn ve : Value) (D : DfaD) (w : World) (h : DfaR S w vn ve D) (hD : okD D) :
    Calls Try.prog 73 #[.agg #[vn, ve]] w (RVn w fun v w' => w'.ownsRow w.heap.size 4 1 v D.1.length (fB D.1.length (leadB D))) := by
  obtain ⟨a, c, b, d, rfl, rfl, hn, hm⟩ := (h).shapes
  obtain ⟨W, hW⟩ : ∃ W, W = w.alloc (.cells #[.slice a D.1.length c, .slice b D.2.length d] 26) := ⟨_, rfl⟩
  have Hb0 : Hid (Below w.heap.size w W) := by rw [hW]; exact (Below.refl _ _).alloc (Nat.le_refl _) _
  have c0 : W.cell? ⟨w.heap.size, 0, none⟩ = some (.slice a D.1.length c) := by rw [hW, World.cell?_alloc_mark]; rfl
  have c1 : W.cell? ⟨w.heap.size, 1, none⟩ = some (.slice b D.2.length d) := by rw [hW, World.cell?_alloc_mark]; rfl
  have K0 : Hid (W.heap[w.heap.size]? = some (.cells #[.slice a D.1.length c, .slice b D.2.length d] 26 (0, 0))) := by rw [hW]; exact blkNew _ _ rfl
  have Hz : Hid (W.heap.size = w.heap.size + 1) := by rw [hW]; simp [Hid]
  have H := Lib.hid ((h).stay (kpB Hb0.out)); clear h
  have HW := Lib.hid hW; clear hW
  have HD := Lib.hid hD
  have hn40 : D.1.length ≤ 40 := hD.1.2
  have hn1 : 1 ≤ D.1.length := hD.1.1
  have Hdl := Lib.hid hD.2.1
  have Hfd := Lib.hid (fB_de hD)
  clear hD
  obtain ⟨W1, hW1⟩ : ∃ W1, W1 = W.alloc (.cells #[] 4) := ⟨_, rfl⟩
  have hbx : Below W.heap.size W W1 := by rw [hW1]; exact (Below.refl _ _).alloc (Nat.le_refl _) _
  have ho0 : Hid (W1.ownsRow W.heap.size 4 1 (.slice (some ⟨w.heap.size + 1, 0, none⟩) 0 0) 0 []) := by rw [hW1, ← Hz.out]; exact ownLit [] (Nat.le_refl _) (by omega) rfl
  have HE := Lib.hid (Fl.stay H.out.2 (kpB hbx))
  have HW1 := Lib.hid hW1
  clear hW1
  rw [HW.out] at c0 c1
  go_enter Try.func73, Try.ntmps73
  go_wp2_with (
    rw [← HW.out, ← HW1.out]
    at_builtin
    refine appMany (S := S) elBool (by decide) rfl (.tmp 7) (.tmp 9) rfl W.heap.size _ _ 0 D.2.length [] (D.2.map .bool) W1 rfl rfl ho0.out HE.out (by simp) (by intro u hu; obtain ⟨b, _, rfl⟩ := List.mem_map.1 hu; rfl) (by have := Hdl.out; omega) hbx.size ?_
    intro v2 w2 ho2 hg2
    have hb2 : Below W.heap.size W w2 := hbx.grown hg2 hbx.size (fun b hb => (own_ge ho0.out b hb).1))
  have ho3 : Hid (w2.ownsRow W.heap.size 4 1 v2 D.1.length (fB D.1.length (de D))) := by
    have := ho2.out
    rw [Nat.zero_add, List.nil_append, Hfd.out, Hdl.out] at this
    exact this
  obtain ⟨g, cap, rfl, hg, _, _⟩ := own_some ho3.out (by omega)
  clear ho2 hg2 ho0 HW1 HE Hfd c0 c1 hbx
  go_loopg [4] (D.1.length + 1 - cntB D.1.length (de D)) (fun m v4 wr => ∃ (o : Nat → Bool) (bb : Bool), v4 = .bool bb ∧ Below W.heap.size W wr ∧ Hid (wr.ownsRow W.heap.size 4 1 (.slice (some ⟨g, 0, none⟩) D.1.length cap) D.1.length (fB D.1.length o)) ∧ Hid (∀ t, t < D.1.length → o t = true → lead D t) ∧ Hid (∀ t, t < D.1.length → de D t = true → o t = true) ∧
    Hid (bb = true → D.1.length + 1 - cntB D.1.length o ≤ m) ∧ Hid (bb = false → ∀ s, s < D.1.length → o s = leadB D s))
  case atStart => exact ⟨de D, true, rfl, hb2, ho3, fun t _ h => ⟨[], h⟩, fun t _ h => h, fun _ => Nat.le_refl _, nofun⟩
  case round =>
    clear hb2 ho3
    obtain ⟨o0, bb, rfl, hb, ho, Hso, Hde, Hm, Hst⟩ := hrel
    cases bb
    · have hfin := Lib.hid (ownBase ho.out Hb0.out.size)
      have hB := Hb0.out.trans (hb.mono Hb0.out.size)
      have Hcg := Lib.hid (fB_congr (Hst.out rfl))
      go_wp2
      go_ret
      exact RVn.mk hB (by rw [← Hcg.out]; exact hfin.out)
    · have Hmk := Lib.hid (Hm.out rfl)
      have Hci := Lib.hid (cntB_le D.1.length o0)
      have HU0 := Lib.hid (UI_start Hso.out Hde.out)
      clear Hm Hst
      go_wp2_with fail
      go_loopw [4, 5] (fun v4 i wr => ∃ (k : Nat) (ch : Bool) (o : Nat → Bool), k ≤ D.1.length ∧ v4 = .bool ch ∧ i = .int .i64 k ∧ Below W.heap.size W wr ∧ Hid (wr.ownsRow W.heap.size 4 1 (.slice (some ⟨g, 0, none⟩) D.1.length cap) D.1.length (fB D.1.length o)) ∧ Hid (UI D o0 k 0 ch o)) (fun _ i _ => D.1.length - (intOf i).toNat)
      case atStart => exact ⟨0, false, o0, by omega, rfl, rfl, hb, ho, HU0⟩
      case round =>
        clear hb ho HU0
        obtain ⟨k, ch, o, hk, rfl, rfl, hb, ho, hU⟩ := hrel
        by_cases hlk : k < D.1.length
        · obtain ⟨bn, on, br, or_, cr, e1, hs1, _, hs2⟩ := H.out.row HD.out hlk
          cases e1
          have Hs1 := Lib.hid hs1
          have Hs2 := Lib.hid hs2
          have hsI : (k : Int) < (D.1.length : Int) := by omega
          clear hs1 hs2
          go_wp2_with fail
          go_loopw [4, 6] (fun v4 i wr => ∃ (c : Nat) (ch : Bool) (o : Nat → Bool), c ≤ 3 ∧ v4 = .bool ch ∧ i = .int .i64 c ∧ Below W.heap.size W wr ∧ Hid (wr.ownsRow W.heap.size 4 1 (.slice (some ⟨g, 0, none⟩) D.1.length cap) D.1.length (fB D.1.length o)) ∧ Hid (UI D o0 k c ch o)) (fun _ i _ => 3 - (intOf i).toNat)
          case atStart => exact ⟨0, ch, o, by omega, rfl, rfl, hb, ho, hU⟩
          case round =>
            clear hb ho hU
            obtain ⟨c, ch', o, hc, rfl, rfl, hb, ho, hU⟩ := hrel
            have d1 := own_fB ho.out hlk
            obtain ⟨x, hx⟩ : ∃ x, x = o k := ⟨_, rfl⟩
            rw [← hx] at d1
            by_cases hc3 : c < 3
            · have hcI : (c : Int) < 3 := by omega
              cases x
              · have htn := dn_lt HD.out hlk hc3
                obtain ⟨c0, c1, _, _⟩ := blk2 (blkBel hb K0.out)
                have d3 := kpB (S := fun _ => True) hb _ _ trivial Hs1.out
                have d0 := kpB (S := fun _ => True) hb _ _ trivial (Hs2.out c hc3)
                have d2 := own_fB ho.out htn
                have fz := ho.out.frozenAt k
                obtain ⟨t, ht⟩ : ∃ t, t = dn D k c := ⟨_, rfl⟩
                rw [← ht] at d0 d2 htn
                have htI : (t : Int) < (D.1.length : Int) := by omega
                obtain ⟨y, hy⟩ : ∃ y, y = o t := ⟨_, rfl⟩
                rw [← hy] at d2
                cases y
                · have hU2 := Lib.hid (UI_no hU.out (by rw [← ht]; exact hy.symm))
                  clear hx hy ht
                  go_wp2
                  go_roundw
                  case rel => exact ⟨c + 1, ch', o, by omega, rfl, by go_num, hb, ho, hU2⟩
                  case measure => simp [intOf]; omega
                · have hU2 := Lib.hid (UI_yes HD.out hlk hc3 hU.out hx.symm (by rw [← ht]; exact hy.symm))
                  have Hup := Lib.hid (own_upd ho.out k true)
                  have Hbs := hb.setCell (p := ⟨g, k, none⟩) hg (.bool true)
                  clear hx hy ht
                  go_wp2
                  go_roundw
                  case rel => exact ⟨c + 1, true, _, by omega, rfl, by go_num, Hbs, Hup, hU2⟩
                  case measure => simp [intOf]; omega
              · have hU2 := Lib.hid (UI_row hU.out (.inr hx.symm))
                clear hx
                go_wp2
                go_roundw
                case rel => exact ⟨k + 1, ch', o, by omega, rfl, by go_num, hb, ho, hU2⟩
                case measure => simp [intOf]; omega
            · obtain rfl : c = 3 := by omega
              have hU2 := Lib.hid (UI_row hU.out (.inl rfl))
              clear hx
              go_wp2
              go_roundw
              case rel => exact ⟨k + 1, ch', o, by omega, rfl, by go_num, hb, ho, hU2⟩
              case measure => simp [intOf]; omega
        · obtain rfl : k = D.1.length := by omega
          have hnk : ¬ ((D.1.length : Int) < (D.1.length : Int)) := by omega
          have H1 := Lib.hid hU.out.1
          have H2 := Lib.hid hU.out.2.1
          have H3 : Hid (ch = true → D.1.length + 1 - cntB D.1.length o ≤ gk - 1) := fun e => by
            subst e
            have := UI_cnt hU.out
            have := cntB_le D.1.length o
            have := Hmk.out
            omega
          have H4 : Hid (ch = false → ∀ s, s < D.1.length → o s = leadB D s) := fun e => by
            subst e
            exact UI_end HD.out hU.out
          go_wp2
          go_roundg (gk - 1)
          case measure => have := Hmk.out; have := Hci.out; omega
          case rel => exact ⟨o, ch, rfl, hb, ho, H1, H2, H3, H4⟩
end Go.Proofs.Ytcbhfopabgiiiaa
namespace Go.Proofs.Ytcbhfopabgiiiaa
open Go.RowKit
set_option maxRecDepth 100000
variable {S T : Nat → Prop}
theorem canon_lg {D : DfaD} (h : okD D) : lgD (canon (lgD D)) = lgD D := by
  rw [← small_eq h, trim_lg (sml_ok (trim_ok h))]
  exact (sml_lg (trim_ok h) (trim_ok h).1.1).trans (trim_lg h)
open Classical in
noncomputable def llV (D : DfaD) : Int := if okD D then lngL (lgD D) else -3
theorem llV_pos {D : DfaD} (h : okD D) : llV D = lngL (lgD D) := if_pos h
theorem llV_neg {D : DfaD} (h : ¬ okD D) : llV D = -3 := if_neg h
/-- A list of numbers, one a state. -/
def nl (n : Nat) (f : Nat → Nat) : List Int := (List.range n).map fun s => ((f s : Nat) : Int)
theorem nl_len (n : Nat) (f : Nat → Nat) : (nl n f).length = n := by simp [nl]
theorem nl_get (n : Nat) (f : Nat → Nat) {s : Nat} (h : s < n) : (nl n f)[s]'(by rw [nl_len]; exact h) = (f s : Int) := by simp [nl]
/-- A list of bools, one a state. -/
def bl (n : Nat) (f : Nat → Bool) : List Bool := (List.range n).map f
theorem bl_len (n : Nat) (f : Nat → Bool) : (bl n f).length = n := by simp [bl]
theorem bl_get (n : Nat) (f : Nat → Bool) {s : Nat} (h : s < n) : (bl n f)[s]'(by rw [bl_len]; exact h) = f s := by simp [bl]
theorem bl_set (n : Nat) (o : Nat → Bool) (k : Nat) (b : Bool) : (bl n o).set k b = bl n (upd o k b) := by
  apply List.ext_getElem (by simp [bl])
  intro i h1 h2
  have hi : i < n := by rw [bl_len] at h2; exact h2
  by_cases e : k = i
  · subst e
    rw [List.getElem_set_self]
    simp [bl, upd_same]
  · rw [List.getElem_set_ne e]
    simp [bl, upd_ne o b (Ne.symm e)]
theorem bl_congr {n : Nat} {o o' : Nat → Bool} (h : ∀ s, o s = o' s) : bl n o = bl n o' := by rw [show o = o' from funext h]
theorem bl_rep (n : Nat) : List.replicate n false = bl n (fun _ => false) := by apply List.ext_getElem <;> simp [bl]
set_option maxHeartbeats 2000000 in
theorem l17Longest_c (vn ve : Value) (gu cu : Nat) (D : DfaD) (w : World) (h : DfaR S w vn ve D) (hD : okD D) (hu : ∀ s, s < D.1.length → w.cell? ⟨gu, s, none⟩ = some (.bool (leadB D s))) (hcu : D.1.length ≤ cu) :
    Calls Try.prog 74 #[.agg #[vn, ve], .slice (some ⟨gu, 0, none⟩) D.1.length cu] w (RVn w fun v w' => ∃ g, v = .slice (some ⟨g, 0, none⟩) D.1.length D.1.length ∧ RowI w' g (nl D.1.length (bs D (D.1.length + 1)))) := by
  obtain ⟨a, c, b, d, rfl, rfl, hn, hm⟩ := (h).shapes
  obtain ⟨W, hW⟩ : ∃ W, W = w.alloc (.cells #[.slice a D.1.length c, .slice b D.2.length d] 26) := ⟨_, rfl⟩
  have Hb0 : Hid (Below w.heap.size w W) := by rw [hW]; exact (Below.refl _ _).alloc (Nat.le_refl _) _
  have c0 : W.cell? ⟨w.heap.size, 0, none⟩ = some (.slice a D.1.length c) := by rw [hW, World.cell?_alloc_mark]; rfl
  have c1 : W.cell? ⟨w.heap.size, 1, none⟩ = some (.slice b D.2.length d) := by rw [hW, World.cell?_alloc_mark]; rfl
  have K0 : Hid (W.heap[w.heap.size]? = some (.cells #[.slice a D.1.length c, .slice b D.2.length d] 26 (0, 0))) := by rw [hW]; exact blkNew _ _ rfl
  have Hz : Hid (W.heap.size = w.heap.size + 1) := by rw [hW]; simp [Hid]
  have H := Lib.hid ((h).stay (kpB Hb0.out)); clear h
  have HW := Lib.hid hW; clear hW
  have HU : Hid (∀ w' : World, Below W.heap.size W w' → ∀ s, s < D.1.length → w'.cell? ⟨gu, s, none⟩ = some (.bool (leadB D s))) := fun w' hb s hs => kpB (S := fun _ => True) hb _ _ trivial (kpB (S := fun _ => True) Hb0.out _ _ trivial (hu s hs))
  have HD := Lib.hid hD
  have hn40 : D.1.length ≤ 40 := hD.1.2
  have hn1 : 1 ≤ D.1.length := hD.1.1
  clear hD hu
  rw [HW.out] at c0 c1
  go_enter Try.func74, Try.ntmps74
  go_wp2_with (at_make; refine makeRow ezInt (by decide) rfl (.tmp 13) (.tmp 13) rfl D.1.length _ rfl rfl (by omega) ?_; rw [← HW.out]; intro w1 hr1 hb1 hz1)
  clear c0 c1
  obtain ⟨B1, hB1⟩ : ∃ B1, B1 = W.heap.size := ⟨_, rfl⟩
  rw [← hB1] at hr1
  rw [← hB1]
  have hWB : W.heap.size ≤ B1 := by rw [hB1]; exact Nat.le_refl _
  have hr0 : Hid (RowI w1 B1 (nl D.1.length (bs D 0))) := by
    have e : nl D.1.length (bs D 0) = List.replicate D.1.length 0 := by apply List.ext_getElem <;> simp [nl, bs]
    rw [e]; exact hr1
  clear hB1 hz1 hr1
  go_loopw [5, 6] (fun v i wr => ∃ (j g : Nat), j ≤ D.1.length + 1 ∧ i = .int .i64 j ∧ v = .slice (some ⟨g, 0, none⟩) D.1.length D.1.length ∧ W.heap.size ≤ g ∧ Below W.heap.size W wr ∧ Hid (RowI wr g (nl D.1.length (bs D j)))) (fun _ i _ => D.1.length + 1 - (intOf i).toNat)
  case atStart => exact ⟨0, B1, by omega, rfl, rfl, hWB, hb1, hr0⟩
  case round =>
    clear hb1 hr0
    obtain ⟨j, g, hj, rfl, rfl, hg, hb, hr⟩ := hrel
    by_cases hjl : j ≤ D.1.length
    · have hgl := hr.out.lt
      go_wp2_with (at_make; refine makeRow ezInt (by decide) rfl (.tmp 22) (.tmp 22) rfl D.1.length _ rfl rfl (by omega) ?_; intro w3 hr3 hb3 hz3)
      have hb4 := hb.trans (hb3.mono hb.size)
      have hr4 := Lib.hid (hr.out.stay hb3)
      obtain ⟨g2, hg2⟩ : ∃ g2, g2 = wr.heap.size := ⟨_, rfl⟩
      rw [← hg2] at hr3 hgl
      rw [← hg2]
      have hgg : g ≠ g2 := by omega
      have hWg2 : W.heap.size ≤ g2 := by rw [hg2]; exact hb.size
      clear hg2 hz3 hb3 hb hr
      go_loopw [8] (fun i wr => ∃ k : Nat, k ≤ D.1.length ∧ i = .int .i64 k ∧ Below W.heap.size W wr ∧ Hid (RowI wr g (nl D.1.length (bs D j))) ∧ Hid (RowI wr g2 (part D.1.length k (fun s => ((bs D (j + 1) s : Nat) : Int)) 0))) (fun i _ => D.1.length - (intOf i).toNat)
      case atStart => exact ⟨0, by omega, rfl, hb4, hr4, by rw [part_zero]; exact hr3⟩
      case round =>
        clear hr3 hr4 hb4
        obtain ⟨k, hk, rfl, hb, hr, hq⟩ := hrel
        by_cases hkl : k < D.1.length
        · go_wp2_with fail
          go_loopw [9] (fun i wr => ∃ c : Nat, c ≤ 3 ∧ i = .int .i64 c ∧ Below W.heap.size W wr ∧ Hid (RowI wr g (nl D.1.length (bs D j))) ∧ Hid (RowI wr g2 ((part D.1.length k (fun s => ((bs D (j + 1) s : Nat) : Int)) 0).set k ((bsC D (bs D j) k c : Nat) : Int)))) (fun i _ => 3 - (intOf i).toNat)
          case atStart => exact ⟨0, by omega, rfl, hb, hr, by
            have e : (part D.1.length k (fun s => ((bs D (j + 1) s : Nat) : Int)) 0).set k ((bsC D (bs D j) k 0 : Nat) : Int) = part D.1.length k (fun s => ((bs D (j + 1) s : Nat) : Int)) 0 := by
              apply List.ext_getElem
              · simp
              · intro i h1 h2
                rw [List.getElem_set]
                split
                · rename_i e; subst e; rw [part_get hkl, if_neg (Nat.lt_irrefl _)]; rfl
                · rfl
            rw [e]; exact hq⟩
          case round =>
            clear hb hr hq
            obtain ⟨t, ht, rfl, hb, hr, hq⟩ := hrel
            have u1 := HU.out wr hb k hkl
            have hkI : (k : Int) < (D.1.length : Int) := by omega
            by_cases htl : t < 3
            · have htI : (t : Int) < 3 := by omega
              obtain ⟨x, hx⟩ : ∃ x, x = leadB D k := ⟨_, rfl⟩
              rw [← hx] at u1
              cases x
              · have hq2 := Lib.hid hq.out
                rw [bsC_off D (bs D j) hx.symm, ← bsC_off D (bs D j) hx.symm 3] at hq2
                rw [bs_three, part_set (fun s => ((bs D (j + 1) s : Nat) : Int)) 0 hkl] at hq2
                clear hq hx
                go_wp2
                go_roundw
                case rel => exact ⟨k + 1, by omega, by go_num, hb, hr, hq2⟩
                case measure => simp [intOf]; omega
              · have k0 := blkBel hb K0.out
                obtain ⟨c0, c1, _, _⟩ := blk2 k0
                obtain ⟨bn, on, br, or_, cr, e1, hs1, hs2, hs3⟩ := (H.out.stay (kpB hb)).step HD.out hkl htl
                cases e1
                have u2 := HU.out wr hb _ hs3
                have hcg := hr.out.cell (i := dn D k t) (by rw [nl_len]; exact hs3)
                rw [nl_get _ _ hs3] at hcg
                have hcq := hq.out.cell (i := k) (by rw [List.length_set, part_len]; exact hkl)
                rw [List.getElem_set_self] at hcq
                have hfz := hq.out.fz k
                have hb1 := bs_le D j (dn D k t)
                have hb2 : bsC D (bs D j) k t ≤ j + 1 := bsC_le D _ k (fun c _ => by have := bs_le D j (dn D k c); omega) t (by omega)
                obtain ⟨y, hy⟩ : ∃ y, y = leadB D (dn D k t) := ⟨_, rfl⟩
                rw [← hy] at u2
                cases y
                · have hq2 := Lib.hid hq.out
                  rw [← bsC_no D (bs D j) hy.symm] at hq2
                  generalize dn D k t = z at *
                  have hzI : (z : Int) < (D.1.length : Int) := by omega
                  clear hq hx hy hcg hcq hb1 hb2
                  go_wp2
                  go_roundw
                  case rel => exact ⟨t + 1, by omega, by go_num, hb, hr, hq2⟩
                  case measure => simp [intOf]; omega
                · have hns := Lib.hid (bsC_yes D (bs D j) hx.symm hy.symm)
                  obtain ⟨a1, ha1⟩ : ∃ x, x = bsC D (bs D j) k t := ⟨_, rfl⟩
                  obtain ⟨a2, ha2⟩ : ∃ x, x = bs D j (dn D k t) := ⟨_, rfl⟩
                  obtain ⟨z, hz⟩ : ∃ z, z = dn D k t := ⟨_, rfl⟩
                  rw [← ha1] at hb2 hns hcq
                  rw [← ha2] at hb1 hns hcg
                  rw [← hz] at hcg hs2 hs3 u2
                  clear ha1 ha2 hz hx hy
                  have hzI : (z : Int) < (D.1.length : Int) := by omega
                  have hwx : IntKind.i64.wrap ((a2 : Int) + 1) = (a2 : Int) + 1 := IntWalk.i64_in _ (by omega)
                  go_wp2_with fail
                  go_still_tail 13, (by kernel_rfl)
                  change wpList _ _ _ _ _ wr.drew
                  have hq2 : RowI wr.drew g2 _ := hq.out
                  have hr2 : Hid (RowI wr.drew g (nl D.1.length (bs D j))) := hr.out
                  have hb2' : Below W.heap.size W wr.drew := hb.drew
                  have hcq2 : wr.drew.cell? ⟨g2, k, none⟩ = some (.int .i64 (a1 : Int)) := hcq
                  have hfz2 : wr.drew.frozen? ⟨g2, k, none⟩ = false := hfz
                  clear hq hr hb hcq hfz hcg hs1 hs2 c0 c1 k0
                  generalize wr.drew = w2 at *
                  have hmx : (if (a1 : Int) < (a2 : Int) + 1 then (a2 : Int) + 1 else (a1 : Int)) = ((max a1 (a2 + 1) : Nat) : Int) := by
                    split
                    · rw [Nat.max_eq_right (by omega)]; rfl
                    · rw [Nat.max_eq_left (by omega)]
                  rw [hmx]
                  clear hmx
                  rw [← hns.out]
                  obtain ⟨y2, hy2⟩ : ∃ x, x = bsC D (bs D j) k (t + 1) := ⟨_, rfl⟩
                  have hq3 := hq2.set k ((y2 : Nat) : Int)
                  rw [List.set_set] at hq3
                  rw [← hy2]
                  have Hq3 := Lib.hid hq3; clear hq3 hq2
                  have Hy2 := Lib.hid hy2; clear hy2
                  have Hr3 := Lib.hid (hr2.out.far (c := g2) (o := k) hgg (.int .i64 ((y2 : Nat) : Int)))
                  have hB3 : Below W.heap.size W (w2.setCell ⟨g2, k, none⟩ (.int .i64 ((y2 : Nat) : Int))) := hb2'.setCell hWg2 _
                  clear hr2 hb2' hns
                  go_wp2
                  go_roundw
                  case rel => exact ⟨t + 1, by omega, by go_num, hB3, Hr3, by rw [← Hy2.out]; exact Hq3⟩
                  case measure => simp [intOf]; omega
            · obtain rfl : t = 3 := by omega
              have hq2 := Lib.hid hq.out
              rw [bs_three, part_set (fun s => ((bs D (j + 1) s : Nat) : Int)) 0 hkl] at hq2
              clear hq
              go_wp2
              go_roundw
              case rel => exact ⟨k + 1, by omega, by go_num, hb, hr, hq2⟩
              case measure => simp [intOf]; omega
        · obtain rfl : k = D.1.length := by omega
          have hq2 : Hid (RowI wr g2 (nl D.1.length (bs D (j + 1)))) := by have := hq.out; rw [part_all] at this; exact this
          clear hq
          go_wp2
          go_roundw
          case rel => exact ⟨j + 1, g2, by omega, by go_num, rfl, hWg2, hb, hq2⟩
          case measure => simp [intOf]; omega
    · obtain rfl : j = D.1.length + 1 := by omega
      have hB := Hb0.out.trans (hb.mono Hb0.out.size)
      clear hb
      go_wp2
      go_ret
      exact RVn.mk hB ⟨g, rfl, hr.out⟩
set_option maxHeartbeats 2000000 in
theorem sLongestLength_c (vn ve : Value) (D : DfaD) (w : World) (h : DfaR S w vn ve D) : Calls Try.prog 17 #[.agg #[vn, ve]] w (RO w (.int .i64 (llV D))) := by
  obtain ⟨a, c, b, d, rfl, rfl, hn, hm⟩ := (h).shapes
  obtain ⟨W, hW⟩ : ∃ W, W = w.alloc (.cells #[.slice a D.1.length c, .slice b D.2.length d] 26) := ⟨_, rfl⟩
  have Hb0 : Hid (Below w.heap.size w W) := by rw [hW]; exact (Below.refl _ _).alloc (Nat.le_refl _) _
  have c0 : W.cell? ⟨w.heap.size, 0, none⟩ = some (.slice a D.1.length c) := by rw [hW, World.cell?_alloc_mark]; rfl
  have c1 : W.cell? ⟨w.heap.size, 1, none⟩ = some (.slice b D.2.length d) := by rw [hW, World.cell?_alloc_mark]; rfl
  have K0 : Hid (W.heap[w.heap.size]? = some (.cells #[.slice a D.1.length c, .slice b D.2.length d] 26 (0, 0))) := by rw [hW]; exact blkNew _ _ rfl
  have Hz : Hid (W.heap.size = w.heap.size + 1) := by rw [hW]; simp [Hid]
  have H := Lib.hid ((h).stay (kpB Hb0.out)); clear h
  have HW := Lib.hid hW; clear hW
  rw [HW.out] at c0 c1
  go_enter Try.func17, Try.ntmps17
  go_wp2_with fail
  clear c0 c1
  rw [← HW.out]
  refine (sDfaValid_c _ _ D W H.out).mono ?_
  rintro e w1 ⟨ok, rfl, hb1, hok⟩
  have hB := Hb0.out.trans (hb1.mono Hb0.out.size)
  obtain ⟨c0, c1, _, _⟩ := blk2 (blkBel hb1 K0.out)
  cases ok
  · have hno := hbF hok
    clear hok
    go_wp2
    go_ret
    rw [llV_neg hno]
    exact ⟨rfl, hB⟩
  · have hyes := Lib.hid (hbT hok)
    clear hok
    have Hll := Lib.hid (llV_pos hyes.out)
    have hck := canon_ok hyes.out
    have hLx := Lib.hid (Lng_eq (lng_ref (canon (lgD D)) hck))
    rw [canon_lg hyes.out, ← Hll.out] at hLx
    go_wp2_with fail
    refine (l10Small_c _ _ D w1 (H.out.stay (kpB hb1)) hyes.out).mono ?_
    rintro e w2 ⟨v1, v2, rfl, hb2, hd⟩
    obtain ⟨X, hX⟩ : ∃ X, X = canon (lgD D) := ⟨_, rfl⟩
    rw [← hX] at hd hck hLx
    have HX := Lib.hid hck
    have hx1 : 1 ≤ X.1.length := hck.1.1
    have hx40 : X.1.length ≤ 40 := hck.1.2
    have HD2 := Lib.hid hd.out.rd
    obtain ⟨a1, ca1, a2, ca2, rfl, rfl, _, _⟩ := HD2.out.shapes
    have HB2 := Lib.hid (hB.trans (hb2.mono hB.size))
    obtain ⟨W3, hW3⟩ : ∃ W3, W3 = w2.alloc (.cells #[.slice a1 X.1.length ca1, .slice a2 X.2.length ca2] 26) := ⟨_, rfl⟩
    have hb3 : Below w2.heap.size w2 W3 := by rw [hW3]; exact (Below.refl _ _).alloc (Nat.le_refl _) _
    have K3 : Hid (W3.heap[w2.heap.size]? = some (.cells #[.slice a1 X.1.length ca1, .slice a2 X.2.length ca2] 26 (0, 0))) := by rw [hW3]; exact blkNew _ _ rfl
    have HW3 := Lib.hid hW3
    clear hX hck hd hb1 hb2 hB hW3 c0 c1 HW H
    obtain ⟨c0, c1, _, _⟩ := blk2 K3.out
    rw [HW3.out] at c0 c1
    go_wp2_with fail
    clear c0 c1
    rw [← HW3.out]
    refine (l14Useful_c _ _ X W3 (HD2.out.stay (kpB hb3)) HX.out).mono ?_
    rintro e w4 ⟨vu, rfl, hb4, hu⟩
    obtain ⟨gu, cu, rfl, hgu, _, _⟩ := own_some hu.out (by omega)
    have hcu : X.1.length ≤ cu := Fl.cap (ownFl hu.out).fl
    have HU := Lib.hid (fun s (hs : s < X.1.length) => own_fB hu.out hs)
    have hb34 := hb3.trans (hb4.mono hb3.size)
    have HB4 := Lib.hid (HB2.out.trans (hb34.mono HB2.out.size))
    have H4 := Lib.hid (HD2.out.stay (kpB hb34))
    have K4 := Lib.hid (blkBel hb4 K3.out)
    obtain ⟨c0, c1, _, _⟩ := blk2 K4.out
    have u0 := HU.out 0 hx1
    have hx0 : (0 : Int) < (X.1.length : Int) := by omega
    obtain ⟨x, hx⟩ : ∃ x, x = leadB X 0 := ⟨_, rfl⟩
    rw [← hx] at u0 hLx
    clear hx hu hb3 hb4 HD2 K3 HW3
    cases x
    · simp only [if_false, Bool.false_eq_true] at hLx
      clear hb34
      go_wp2
      go_ret
      rw [← hLx.out]
      exact ⟨rfl, HB4.out⟩
    · simp only [if_true] at hLx
      go_wp2_with fail
      clear c0 c1 u0
      refine (l17Longest_c _ _ gu cu X w4 H4.out HX.out HU.out hcu).mono ?_
      rintro e w5 ⟨v, rfl, hb5, g, rfl, hr5⟩
      have d0 := hr5.cell (i := 0) (by rw [nl_len]; omega)
      rw [nl_get _ _ hx1] at d0
      have HB5 := Lib.hid (HB4.out.trans (hb5.mono HB4.out.size))
      obtain ⟨c0, c1, _, _⟩ := blk2 (blkBel hb5 K4.out)
      generalize bs X (X.1.length + 1) 0 = y at *
      clear hr5 hb5 HU H4 K4 hb34
      by_cases hny : (X.1.length : Int) ≤ (y : Int)
      · rw [if_pos hny] at hLx
        go_wp2
        go_ret
        rw [← hLx.out]
        exact ⟨rfl, HB5.out⟩
      · rw [if_neg hny] at hLx
        go_wp2
        go_ret
        rw [← hLx.out]
        exact ⟨rfl, HB5.out⟩
set_option maxHeartbeats 2000000 in
theorem LongestLength_c (vn ve : Value) (D : DfaD) (w : World) (h : DfaR S w vn ve D) : Calls Try.prog 16 #[.agg #[vn, ve]] w (RO w (.int .i64 (llV D))) := by
  obtain ⟨a, c, b, d, rfl, rfl, hn, hm⟩ := (h).shapes
  obtain ⟨W, hW⟩ : ∃ W, W = w.alloc (.cells #[.slice a D.1.length c, .slice b D.2.length d] 26) := ⟨_, rfl⟩
  have Hb0 : Hid (Below w.heap.size w W) := by rw [hW]; exact (Below.refl _ _).alloc (Nat.le_refl _) _
  have c0 : W.cell? ⟨w.heap.size, 0, none⟩ = some (.slice a D.1.length c) := by rw [hW, World.cell?_alloc_mark]; rfl
  have c1 : W.cell? ⟨w.heap.size, 1, none⟩ = some (.slice b D.2.length d) := by rw [hW, World.cell?_alloc_mark]; rfl
  have K0 : Hid (W.heap[w.heap.size]? = some (.cells #[.slice a D.1.length c, .slice b D.2.length d] 26 (0, 0))) := by rw [hW]; exact blkNew _ _ rfl
  have Hz : Hid (W.heap.size = w.heap.size + 1) := by rw [hW]; simp [Hid]
  have H := Lib.hid ((h).stay (kpB Hb0.out)); clear h
  have HW := Lib.hid hW; clear hW
  rw [HW.out] at c0 c1
  go_enter Try.func16, Try.ntmps16
  go_wp2_with fail
  clear c0 c1
  rw [← HW.out]
  refine (DfaValid_c _ _ D W H.out).mono ?_
  rintro e w1 ⟨ok, rfl, hb1, hok⟩
  have HB1 := Lib.hid (Hb0.out.trans (hb1.mono Hb0.out.size))
  have K1 := Lib.hid (blkBel hb1 K0.out)
  have H1 := Lib.hid (H.out.stay (kpB hb1))
  obtain ⟨c0, c1, _, _⟩ := blk2 K1.out
  clear hb1 K0 H HW
  cases ok
  · have hno := hbF hok
    clear hok
    go_wp2
    go_ret
    rw [llV_neg hno]
    exact ⟨rfl, HB1.out⟩
  · have HD := Lib.hid (hbT hok)
    clear hok
    have Hll := Lib.hid (llV_pos HD.out)
    have hn40 : D.1.length ≤ 40 := HD.out.1.2
    have hn1 : 1 ≤ D.1.length := HD.out.1.1
    have hn0I : (0 : Int) < (D.1.length : Int) := by omega
    have Hdl := Lib.hid HD.out.2.1
    have hl1 : w.heap.size < w1.heap.size := (Array.getElem?_eq_some_iff.1 K1.out).1
    go_wp2_with (at_make; refine makeRow ezBool (by decide) rfl (.tmp 16) (.tmp 16) rfl D.1.length _ rfl rfl (by omega) ?_; intro w2 hr2 hb2 hz2; have d0 := hr2.out.cell (i := 0) (by rw [List.length_replicate]; omega); rw [List.getElem_replicate] at d0; have f0 := hr2.out.fz 0; obtain ⟨c0', c1', _, _⟩ := blk2 (blkBel hb2 K1.out))
    clear c0 c1 c0' c1' d0 f0
    obtain ⟨B1, hB1⟩ : ∃ B1, B1 = w1.heap.size := ⟨_, rfl⟩
    rw [← hB1] at hr2
    rw [← hB1]
    have hWB : w1.heap.size ≤ B1 := by rw [hB1]; exact Nat.le_refl _
    have hr3 := Lib.hid (hr2.out.set 0 true)
    rw [bl_rep, bl_set, bl_congr (o' := rB D 0) (fun s => by
      by_cases e : s = 0
      · subst e; rw [upd_same]; rfl
      · rw [upd_ne _ _ e]; show false = (s == 0); simp [e])] at hr3
    have hb3 : Below w1.heap.size w1 (w2.setCell ⟨B1, 0, none⟩ (.bool true)) := hb2.setCell hWB _
    clear hr2 hb2 hz2 hB1
    generalize (w2.setCell ⟨B1, 0, none⟩ (.bool true)) = w3 at *
    go_loopw [3, 4, 25] (fun v3 v4 i wr => ∃ (m g : Nat) (r : Int), m ≤ 2 * D.1.length + 1 ∧ i = .int .i64 m ∧ v3 = .slice (some ⟨g, 0, none⟩) D.1.length D.1.length ∧ v4 = .int .i64 r ∧ w1.heap.size ≤ g ∧ Below w1.heap.size w1 wr ∧ Hid (RowB wr g (bl D.1.length (rB D m))) ∧ Hid (LgI D m 0 r)) (fun _ _ i _ => 2 * D.1.length + 1 - (intOf i).toNat)
    case atStart => exact ⟨0, B1, -2, by omega, rfl, rfl, rfl, hWB, hb3, hr3, LgI_start⟩
    case round =>
      clear hb3 hr3 hWB
      obtain ⟨m, g, r, hm, rfl, rfl, rfl, hg, hb, hr, hL⟩ := hrel
      obtain ⟨c0, c1, _, _⟩ := blk2 (blkBel hb K1.out)
      by_cases hml : m < 2 * D.1.length + 1
      · have hgl := hr.out.lt
        have hmI : (m : Int) < 2 * (D.1.length : Int) + 1 := by omega
        go_wp2_with (at_make; refine makeRow ezBool (by decide) rfl (.tmp 30) (.tmp 30) rfl D.1.length _ rfl rfl (by omega) ?_; intro w4 hr4 hb4 hz4)
        have hb5 := hb.trans (hb4.mono hb.size)
        have hr5 := Lib.hid (hr.out.stay hb4)
        obtain ⟨g2, hg2⟩ : ∃ g2, g2 = wr.heap.size := ⟨_, rfl⟩
        rw [← hg2] at hr4 hgl
        rw [← hg2]
        have hgg : g ≠ g2 := by omega
        have hWg2 : w1.heap.size ≤ g2 := by rw [hg2]; exact hb.size
        rw [bl_rep, ← bl_congr (fun t => nB_start D m t)] at hr4
        clear hg2 hz4 hb4 hb hr c0 c1
        go_loopw [4, 34] (fun v4 i wr => ∃ (k : Nat) (r : Int), k ≤ D.1.length ∧ i = .int .i64 k ∧ v4 = .int .i64 r ∧ Below w1.heap.size w1 wr ∧ Hid (RowB wr g (bl D.1.length (rB D m))) ∧ Hid (RowB wr g2 (bl D.1.length (nB D m k 0))) ∧ Hid (LgI D m k r)) (fun _ i _ => D.1.length - (intOf i).toNat)
        case atStart => exact ⟨0, r, by omega, rfl, rfl, hb5, hr5, hr4, hL⟩
        case round =>
          clear hr4 hr5 hb5 hL
          obtain ⟨k, r, hk, rfl, rfl, hb, hr, hq, hL⟩ := hrel
          by_cases hkl : k < D.1.length
          · obtain ⟨c0, c1, _, _⟩ := blk2 (blkBel hb K1.out)
            have d1 := hr.out.cell (i := k) (by rw [bl_len]; exact hkl)
            rw [bl_get _ _ hkl] at d1
            have hkI : (k : Int) < (D.1.length : Int) := by omega
            obtain ⟨x, hx⟩ : ∃ x, x = rB D m k := ⟨_, rfl⟩
            rw [← hx] at d1
            cases x
            · have hq2 := Lib.hid hq.out
              rw [bl_congr (fun t => nB_skip D hx.symm t)] at hq2
              have hL2 := Lib.hid (LgI_skip hL.out (.inl hx.symm))
              clear hq hL hx
              go_wp2
              go_roundw
              case rel => exact ⟨k + 1, r, by omega, by go_num, rfl, hb, hr, hq2, hL2⟩
              case measure => simp [intOf]; omega
            · obtain ⟨be, oe, e1, he⟩ := (H1.out.stay (kpB hb)).mark HD.out hkl
              cases e1
              obtain ⟨bn, on, br, or_, cr, e1, hs1', _, hs2'⟩ := H1.out.row HD.out hkl
              cases e1
              have hs1 := kpB (S := fun _ => True) hb _ _ trivial hs1'
              have Hs2 := Lib.hid hs2'
              have hlt2 : k < D.2.length := by rw [Hdl.out]; exact hkl
              have hk2I : (k : Int) < (D.2.length : Int) := by omega
              have HX := Lib.hid hx.symm
              clear hx hs1' hs2'
              obtain ⟨y, hy⟩ : ∃ y, y = de D k := ⟨_, rfl⟩
              rw [← hy] at he
              have hL2 : ∃ r2 : Int, Hid (LgI D m (k + 1) r2) ∧ Hid (y = true → r2 = (m : Int)) ∧ Hid (y = false → r2 = r) := by
                cases y
                · exact ⟨r, LgI_skip hL.out (.inr hy.symm), nofun, fun _ => rfl⟩
                · exact ⟨m, LgI_hit HD.out hkl HX.out hy.symm, fun _ => rfl, nofun⟩
              obtain ⟨r2, HL2, hra, hrb⟩ := hL2
              clear hy hL
              cases y
              all_goals
                first
                  | (have e := hra.out rfl; subst e)
                  | (have e := hrb.out rfl; subst e)
                clear hra hrb
                go_wp2_with fail
                clear c0 c1 d1 he hs1
                go_loopw [53] (fun i wr => ∃ c : Nat, c ≤ 3 ∧ i = .int .i64 c ∧ Below w1.heap.size w1 wr ∧ Hid (RowB wr g (bl D.1.length (rB D m))) ∧ Hid (RowB wr g2 (bl D.1.length (nB D m k c)))) (fun i _ => 3 - (intOf i).toNat)
                case atStart => exact ⟨0, by omega, rfl, hb, hr, hq⟩
                case round =>
                  clear hb hr hq
                  obtain ⟨c, hc, rfl, hb, hr, hq⟩ := hrel
                  by_cases hc3 : c < 3
                  · have htn := dn_lt HD.out hkl hc3
                    have d0 := kpB (S := fun _ => True) hb _ _ trivial (Hs2.out c hc3)
                    have d2 := hq.out.cell (i := dn D k c) (by rw [bl_len]; exact htn)
                    rw [bl_get _ _ htn] at d2
                    generalize nB D m k c (dn D k c) = old at d2
                    have fz := hq.out.fz (dn D k c)
                    have hq2 := Lib.hid (hq.out.set (dn D k c) true)
                    rw [bl_set, bl_congr (fun t => nB_next D HX.out t)] at hq2
                    obtain ⟨t, ht⟩ : ∃ t, t = dn D k c := ⟨_, rfl⟩
                    rw [← ht] at d0 fz hq2 htn d2
                    have hr2 := Lib.hid (hr.out.far (c := g2) (o := t) hgg (.bool true))
                    have hb2 : Below w1.heap.size w1 (wr.setCell ⟨g2, t, none⟩ (.bool true)) := hb.setCell hWg2 _
                    have htI : (t : Int) < (D.1.length : Int) := by omega
                    have hcI : (c : Int) < 3 := by omega
                    clear ht hq hr hb
                    go_wp2
                    go_roundw
                    case rel => exact ⟨c + 1, by omega, by go_num, hb2, hr2, hq2⟩
                    case measure => simp [intOf]; omega
                  · obtain rfl : c = 3 := by omega
                    have hq2 := Lib.hid hq.out
                    rw [bl_congr (fun t => nB_row D t)] at hq2
                    clear hq
                    go_wp2
                    go_roundw
                    case rel => exact ⟨k + 1, _, by omega, by go_num, rfl, hb, hr, hq2, HL2⟩
                    case measure => simp [intOf]; omega
          · obtain rfl : k = D.1.length := by omega
            have hnk : ¬ ((D.1.length : Int) < (D.1.length : Int)) := by omega
            have hq2 := Lib.hid hq.out
            rw [bl_congr (fun t => nB_end D t)] at hq2
            have hL2 := Lib.hid (LgI_round HD.out hL.out)
            clear hq hL
            go_wp2
            go_roundw
            case rel => exact ⟨m + 1, g2, r, by omega, by go_num, rfl, rfl, hWg2, hb, hq2, hL2⟩
            case measure => simp [intOf]; omega
      · obtain rfl : m = 2 * D.1.length + 1 := by omega
        have hnm : ¬ (((2 * D.1.length + 1 : Nat) : Int) < 2 * (D.1.length : Int) + 1) := by omega
        have hfin := Lib.hid (LgI_end HD.out hL.out)
        have hle := LgI_le hL.out
        have hBf := HB1.out.trans (hb.mono HB1.out.size)
        rw [← Hll.out] at hfin
        clear hL hr hb
        by_cases hny : (D.1.length : Int) ≤ r
        · rw [if_pos hny] at hfin
          go_wp2
          go_ret
          rw [← hfin.out]
          exact ⟨rfl, hBf⟩
        · rw [if_neg hny] at hfin
          go_wp2
          go_ret
          rw [← hfin.out]
          exact ⟨rfl, hBf⟩
end Go.Proofs.Ytcbhfopabgiiiaa
