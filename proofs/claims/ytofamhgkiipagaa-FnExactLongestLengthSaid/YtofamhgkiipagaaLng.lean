/- The longest words of a language, by states. Plain. No condition. -/
import Derived.Test.YtofamhgkiipagaaFwd
import Derived.Test.YtofamhgkiipagaaLdm
namespace Go.Proofs.Ytofamhgkiipagaa
/-- There is a word of m letters. -/
def hasLen (L : Lg) (m : Nat) : Prop := ∃ w : List (Fin 3), w.length = m ∧ L w = true
/-- There are infinitely many words. -/
def unb (L : Lg) : Prop := ∀ m, ∃ k, m ≤ k ∧ hasLen L k
/-- The number that LongestLength has for a language. -/
def Lng (L : Lg) (r : Int) : Prop := (r = -2 ∧ ¬ hasW L) ∨ (r = -1 ∧ unb L) ∨ (∃ m : Nat, r = m ∧ hasLen L m ∧ ∀ k, hasLen L k → k ≤ m)
open Classical in
noncomputable def lngL (L : Lg) : Int := if hasW L then (if unb L then -1 else (lst (fun m => ∀ k, hasLen L k → k ≤ m) : Nat)) else -2
theorem hasLen_W {L : Lg} {m : Nat} (h : hasLen L m) : hasW L := let ⟨w, _, h⟩ := h; ⟨w, h⟩
theorem Lng_eq {L : Lg} {r : Int} (h : Lng L r) : r = lngL L := by
  unfold lngL
  rcases h with ⟨rfl, h⟩ | ⟨rfl, h⟩ | ⟨m, rfl, h1, h2⟩
  · rw [if_neg h]
  · obtain ⟨k, _, hk⟩ := h 0
    rw [if_pos (hasLen_W hk), if_pos h]
  · have hnu : ¬ unb L := fun hu => by
      obtain ⟨k, hk, hl⟩ := hu (m + 1)
      have := h2 k hl
      omega
    rw [if_pos (hasLen_W h1), if_neg hnu]
    congr 1
    exact (lst_eq (p := fun m => ∀ k, hasLen L k → k ≤ m) h2 fun j hj hh => by have := hh m h1; omega).symm
section
variable {nx : Nat → Nat → Nat} {en : Nat → Bool} {s0 n : Nat}
theorem go_append (nx : Nat → Nat → Nat) (s : Nat) (u v : List (Fin 3)) : go nx s (u ++ v) = go nx (go nx s u) v := by simp [go, List.foldl_append]
theorem go_lt (h0 : s0 < n) (hs : ∀ s, s < n → ∀ c, c < 3 → nx s c < n) (w : List (Fin 3)) : go nx s0 w < n :=
  snocCases (p := fun w => go nx s0 w < n) h0 (fun w c h => by rw [go_snoc]; exact hs _ h _ c.isLt) w
/-- A long word runs through a state twice. -/
theorem pump (h0 : s0 < n) (hs : ∀ s, s < n → ∀ c, c < 3 → nx s c < n) (w : List (Fin 3)) (hw : n ≤ w.length) :
    ∃ x y z, w = x ++ y ++ z ∧ 1 ≤ y.length ∧ x.length + y.length ≤ n ∧ go nx s0 (x ++ y) = go nx s0 x := by
  apply Classical.byContradiction
  intro hno
  have hnd : ((List.range (n + 1)).map (fun i => go nx s0 (w.take i))).Nodup := by
    refine List.pairwise_iff_getElem.2 fun i j hi hj hij he => hno ?_
    simp only [List.length_map, List.length_range] at hi hj
    simp only [List.getElem_map, List.getElem_range] at he
    refine ⟨w.take i, (w.take j).drop i, w.drop j, ?_, ?_, ?_, ?_⟩
    · have : w.take i = (w.take j).take i := by rw [List.take_take, Nat.min_eq_left (by omega)]
      rw [this, List.take_append_drop, List.take_append_drop]
    · simp only [List.length_drop, List.length_take]; omega
    · simp only [List.length_drop, List.length_take]; omega
    · have : w.take i = (w.take j).take i := by rw [List.take_take, Nat.min_eq_left (by omega)]
      rw [this, List.take_append_drop, ← this, he]
  have := nodup_le (n := n) hnd (fun x hx => by
    obtain ⟨i, _, rfl⟩ := List.mem_map.1 hx
    exact go_lt h0 hs _)
  simp only [List.length_map, List.length_range] at this
  omega
theorem pump_up (h0 : s0 < n) (hs : ∀ s, s < n → ∀ c, c < 3 → nx s c < n) {m : Nat} (hm : n ≤ m) (h : hasLen (lg nx en s0) m) : unb (lg nx en s0) := by
  intro k
  induction k with
  | zero => exact ⟨m, by omega, h⟩
  | succ k ih =>
    have ih' : ∃ j, k ≤ j ∧ n ≤ j ∧ hasLen (lg nx en s0) j := by
      obtain ⟨j, hj, hl⟩ := ih
      rcases Nat.lt_or_ge j n with h1 | h1
      · exact ⟨m, by omega, hm, h⟩
      · exact ⟨j, hj, h1, hl⟩
    obtain ⟨j, hj, hnj, w, hw, hl⟩ := ih'
    obtain ⟨x, y, z, rfl, hy, _, he⟩ := pump h0 hs w (by omega)
    refine ⟨(x ++ y ++ y ++ z).length, ?_, x ++ y ++ y ++ z, rfl, ?_⟩
    · simp only [List.length_append] at hw ⊢; omega
    · rw [lg_go] at hl ⊢
      rw [go_append, go_append (u := x ++ y), he, ← go_append nx s0 x y, ← go_append]
      exact hl
theorem pump_down (h0 : s0 < n) (hs : ∀ s, s < n → ∀ c, c < 3 → nx s c < n) : ∀ m, n ≤ m → hasLen (lg nx en s0) m → ∃ k, n ≤ k ∧ k ≤ 2 * n ∧ hasLen (lg nx en s0) k := by
  intro m
  induction m using Nat.strongRecOn with
  | ind m ih =>
    intro hm h
    rcases Nat.lt_or_ge (2 * n) m with h1 | h1
    · obtain ⟨w, hw, hl⟩ := h
      obtain ⟨x, y, z, rfl, hy, hxy, he⟩ := pump h0 hs w (by omega)
      simp only [List.length_append] at hw
      refine ih (x.length + z.length) (by omega) (by omega) ⟨x ++ z, by simp, ?_⟩
      rw [lg_go] at hl ⊢
      rw [go_append, he] at hl
      rw [go_append]
      exact hl
    · exact ⟨m, hm, h1, h⟩
/-- What the program finds among the words of at most 2n letters. -/
theorem lng_prog (h0 : s0 < n) (hs : ∀ s, s < n → ∀ c, c < 3 → nx s c < n) {r : Int}
    (h : (r = -2 ∧ ∀ k, k ≤ 2 * n → ¬ hasLen (lg nx en s0) k) ∨ ∃ m : Nat, r = m ∧ m ≤ 2 * n ∧ hasLen (lg nx en s0) m ∧ ∀ k, k ≤ 2 * n → hasLen (lg nx en s0) k → k ≤ m) :
    Lng (lg nx en s0) (if (n : Int) ≤ r then -1 else r) := by
  rcases h with ⟨rfl, h⟩ | ⟨m, rfl, hm, h1, h2⟩
  · rw [if_neg (by omega)]
    refine .inl ⟨rfl, fun ⟨w, hw⟩ => ?_⟩
    rcases Nat.lt_or_ge (2 * n) w.length with h1 | h1
    · obtain ⟨k, _, hk, hl⟩ := pump_down h0 hs w.length (by omega) ⟨w, rfl, hw⟩
      exact h k hk hl
    · exact h _ h1 ⟨w, rfl, hw⟩
  · by_cases hn : n ≤ m
    · rw [if_pos (by omega)]
      exact .inr (.inl ⟨rfl, pump_up h0 hs hn h1⟩)
    · rw [if_neg (by omega)]
      refine .inr (.inr ⟨m, rfl, h1, fun k hk => ?_⟩)
      rcases Nat.lt_or_ge (2 * n) k with h3 | h3
      · obtain ⟨j, hj, hj2, hl⟩ := pump_down h0 hs k (by omega) hk
        have := h2 j hj2 hl
        omega
      · exact h2 k h3 hk
end
section
variable (D : DfaD)
/-- The letters' lengths by useful states, after the first c letters. -/
noncomputable def bsC (f : Nat → Nat) (s : Nat) : Nat → Nat
  | 0 => 0
  | c + 1 => if leadB D s && leadB D (dn D s c) then max (bsC f s c) (f (dn D s c) + 1) else bsC f s c
/-- After r rounds. -/
noncomputable def bs : Nat → Nat → Nat
  | 0, _ => 0
  | r + 1, s => bsC D (bs r) s 3
theorem bs_three (r s : Nat) : bsC D (bs D r) s 3 = bs D (r + 1) s := rfl
theorem bsC_le (f : Nat → Nat) (s : Nat) {b : Nat} (h : ∀ c, c < 3 → f (dn D s c) + 1 ≤ b) : ∀ c, c ≤ 3 → bsC D f s c ≤ b
  | 0, _ => Nat.zero_le _
  | c + 1, hc => by
    have := bsC_le f s h c (by omega)
    have := h c (by omega)
    show (if _ then _ else _) ≤ b
    split
    · exact Nat.max_le.2 ⟨by omega, by omega⟩
    · omega
theorem bs_le (r s : Nat) : bs D r s ≤ r := by
  induction r generalizing s with
  | zero => exact Nat.le_refl _
  | succ r ih => exact bsC_le D _ s (fun c _ => by have := ih (dn D s c); omega) 3 (Nat.le_refl _)
theorem bsC_ge (f : Nat → Nat) (s : Nat) {d : Nat} (hs : leadB D s = true) (hd : leadB D (dn D s d) = true) : ∀ c, d < c → f (dn D s d) + 1 ≤ bsC D f s c
  | 0, h => absurd h (Nat.not_lt_zero _)
  | c + 1, h => by
    show _ ≤ (if _ then _ else _)
    rcases Nat.lt_or_ge d c with h1 | h1
    · have h2 := bsC_ge f s hs hd c h1
      split
      · exact Nat.le_trans h2 (Nat.le_max_left _ _)
      · exact h2
    · obtain rfl : d = c := by omega
      rw [if_pos (by rw [hs, hd]; rfl)]
      exact Nat.le_max_right _ _
theorem bsC_cases (f : Nat → Nat) (s : Nat) : ∀ c, bsC D f s c = 0 ∨ ∃ d, d < c ∧ leadB D s = true ∧ leadB D (dn D s d) = true ∧ bsC D f s c = f (dn D s d) + 1
  | 0 => .inl rfl
  | c + 1 => by
    by_cases hl : (leadB D s && leadB D (dn D s c)) = true
    · have e : bsC D f s (c + 1) = max (bsC D f s c) (f (dn D s c) + 1) := if_pos hl
      rw [Bool.and_eq_true] at hl
      rw [e]
      rcases Nat.lt_or_ge (f (dn D s c) + 1) (bsC D f s c) with h1 | h1
      · rw [Nat.max_eq_left (by omega)]
        rcases bsC_cases f s c with h2 | ⟨d, hd, h3⟩
        · exact .inl h2
        · exact .inr ⟨d, by omega, h3⟩
      · rw [Nat.max_eq_right h1]
        exact .inr ⟨c, by omega, hl.1, hl.2, rfl⟩
    · have e : bsC D f s (c + 1) = bsC D f s c := if_neg hl
      rw [e]
      rcases bsC_cases f s c with h2 | ⟨d, hd, h3⟩
      · exact .inl h2
      · exact .inr ⟨d, by omega, h3⟩
theorem bsC_off (f : Nat → Nat) {s : Nat} (h : leadB D s = false) : ∀ c, bsC D f s c = 0
  | 0 => rfl
  | c + 1 => by
    have e : bsC D f s (c + 1) = bsC D f s c := if_neg (by rw [h]; simp)
    rw [e]; exact bsC_off f h c
theorem bsC_no (f : Nat → Nat) {s c : Nat} (h : leadB D (dn D s c) = false) : bsC D f s (c + 1) = bsC D f s c := if_neg (by rw [h]; simp)
theorem bsC_yes (f : Nat → Nat) {s c : Nat} (h1 : leadB D s = true) (h2 : leadB D (dn D s c) = true) : bsC D f s (c + 1) = max (bsC D f s c) (f (dn D s c) + 1) := if_pos (by rw [h1, h2]; rfl)
theorem lead_go (u : List (Fin 3)) : ∀ {s}, lead D (go (dn D) s u) → lead D s := by
  induction u with
  | nil => intro s h; exact h
  | cons c u ih => intro s h; exact lead_dn c.isLt (ih h)
/-- There is a way of that many letters by useful states. -/
theorem bs_way (r : Nat) : ∀ s, lead D s → ∃ u : List (Fin 3), u.length = bs D r s ∧ lead D (go (dn D) s u) := by
  induction r with
  | zero => intro s h; exact ⟨[], rfl, h⟩
  | succ r ih =>
    intro s h
    rcases bsC_cases D (bs D r) s 3 with h1 | ⟨d, hd, _, hl, he⟩
    · exact ⟨[], h1.symm, h⟩
    · obtain ⟨u, hu, hg⟩ := ih (dn D s d) (leadB_iff.1 hl)
      exact ⟨⟨d, hd⟩ :: u, by show u.length + 1 = bsC D (bs D r) s 3; omega, hg⟩
/-- There is none longer. -/
theorem bs_max (r : Nat) : ∀ s (u : List (Fin 3)), u.length ≤ r → lead D (go (dn D) s u) → u.length ≤ bs D r s := by
  induction r with
  | zero => intro s u hu _; omega
  | succ r ih =>
    intro s u hu hl
    cases u with
    | nil => exact Nat.zero_le _
    | cons c u =>
      have hl' : lead D (go (dn D) (dn D s c.val) u) := hl
      have h1 := ih (dn D s c.val) u (by simpa using hu) hl'
      have h2 := lead_go D u hl'
      have h3 := bsC_ge D (bs D r) s (leadB_iff.2 (lead_dn c.isLt h2)) (leadB_iff.2 h2) 3 c.isLt
      show u.length + 1 ≤ bsC D (bs D r) s 3
      omega
theorem lead_zero : lead D 0 ↔ hasW (lgD D) := Iff.rfl
/-- What the reference finds. -/
theorem lng_ref (hD : okD D) : Lng (lgD D) (if leadB D 0 = true then (if (D.1.length : Int) ≤ (bs D (D.1.length + 1) 0 : Int) then -1 else (bs D (D.1.length + 1) 0 : Int)) else -2) := by
  have h0 : 0 < D.1.length := hD.1.1
  have hs : ∀ s, s < D.1.length → ∀ c, c < 3 → dn D s c < D.1.length := fun s hs c hc => dn_lt hD hs hc
  by_cases hl : leadB D 0 = true
  · rw [if_pos hl]
    have hl' := leadB_iff.1 hl
    obtain ⟨u, hu, hg⟩ := bs_way D (D.1.length + 1) 0 hl'
    obtain ⟨v, hv⟩ := hg
    have hacc : lgD D (u ++ v) = true := by
      unfold lgD
      rw [lg_go, go_append, ← lg_go (dn D) (de D) v]; exact hv
    by_cases hn : D.1.length ≤ bs D (D.1.length + 1) 0
    · rw [if_pos (by omega)]
      exact .inr (.inl ⟨rfl, pump_up (m := (u ++ v).length) h0 hs (by simp; omega) ⟨u ++ v, rfl, hacc⟩⟩)
    · rw [if_neg (by omega)]
      have hv0 : v = [] := by
        cases v with
        | nil => rfl
        | cons c v =>
          exfalso
          have h1 : lead D (go (dn D) 0 (u ++ [c])) := by
            rw [go_append]
            exact ⟨v, hv⟩
          have := bs_max D (D.1.length + 1) 0 (u ++ [c]) (by simp; omega) h1
          simp at this
          omega
      subst hv0
      rw [List.append_nil] at hacc
      refine .inr (.inr ⟨bs D (D.1.length + 1) 0, rfl, ⟨u, hu, hacc⟩, fun k ⟨w, hw, hL⟩ => ?_⟩)
      subst hw
      rcases Nat.lt_or_ge (D.1.length + 1) w.length with h1 | h1
      · exfalso
        have h2 : lead D (go (dn D) 0 (w.take (D.1.length + 1))) := by
          refine ⟨w.drop (D.1.length + 1), ?_⟩
          rw [lg_go, ← go_append, List.take_append_drop, ← lg_go (dn D) (de D) w]; exact hL
        have := bs_max D (D.1.length + 1) 0 _ (by simp; omega) h2
        simp at this
        omega
      · refine bs_max D (D.1.length + 1) 0 w h1 ⟨[], ?_⟩
        unfold lgD at hL
        rw [lg_go] at hL
        exact hL
  · rw [if_neg hl]
    exact .inl ⟨rfl, fun h => hl (leadB_iff.2 h)⟩
/-- The states that words of m letters lead to. -/
def rB : Nat → Nat → Bool
  | 0, t => t == 0
  | m + 1, t => (List.range D.1.length).any fun s => rB m s && (List.range 3).any fun c => dn D s c == t
theorem rB_iff (hD : okD D) (m : Nat) : ∀ t, rB D m t = true ↔ ∃ w : List (Fin 3), w.length = m ∧ go (dn D) 0 w = t := by
  induction m with
  | zero =>
    intro t
    show (t == 0) = true ↔ _
    rw [beq_iff_eq]
    constructor
    · rintro rfl; exact ⟨[], rfl, rfl⟩
    · rintro ⟨w, hw, rfl⟩
      have := List.eq_nil_of_length_eq_zero hw
      subst this; rfl
  | succ m ih =>
    intro t
    show ((List.range D.1.length).any fun s => rB D m s && (List.range 3).any fun c => dn D s c == t) = true ↔ _
    rw [List.any_eq_true]
    constructor
    · rintro ⟨s, hs, h⟩
      rw [Bool.and_eq_true, List.any_eq_true] at h
      obtain ⟨h1, c, hc, h2⟩ := h
      obtain ⟨w, hw, he⟩ := (ih s).1 h1
      refine ⟨w ++ [⟨c, List.mem_range.1 hc⟩], by simp [hw], ?_⟩
      rw [go_snoc, he]; exact beq_iff_eq.1 h2
    · rintro ⟨w, hw, rfl⟩
      have hne : w ≠ [] := by intro e; subst e; simp at hw
      have hlt := go_lt (nx := dn D) (s0 := 0) hD.1.1 (fun s hs c hc => dn_lt hD hs hc) w.dropLast
      refine ⟨go (dn D) 0 w.dropLast, List.mem_range.2 hlt, ?_⟩
      rw [Bool.and_eq_true, List.any_eq_true]
      refine ⟨(ih _).2 ⟨w.dropLast, by simp; omega, rfl⟩, (w.getLast hne).val, List.mem_range.2 (w.getLast hne).isLt, ?_⟩
      rw [beq_iff_eq, ← go_snoc (dn D) 0 w.dropLast (w.getLast hne), List.dropLast_concat_getLast]
theorem rB_len (hD : okD D) (m : Nat) : hasLen (lgD D) m ↔ ∃ s, s < D.1.length ∧ rB D m s = true ∧ de D s = true := by
  constructor
  · rintro ⟨w, hw, hL⟩
    unfold lgD at hL
    rw [lg_go] at hL
    exact ⟨_, go_lt (nx := dn D) (s0 := 0) hD.1.1 (fun s hs c hc => dn_lt hD hs hc) w, (rB_iff D hD m _).2 ⟨w, hw, rfl⟩, hL⟩
  · rintro ⟨s, _, hr, he⟩
    obtain ⟨w, hw, rfl⟩ := (rB_iff D hD m s).1 hr
    exact ⟨w, hw, by unfold lgD; rw [lg_go]; exact he⟩
/-- The states that the first k states have led to, and state k by the first c letters. -/
def nB (m k c t : Nat) : Bool := ((List.range k).any fun s => rB D m s && (List.range 3).any fun c => dn D s c == t) || (rB D m k && (List.range c).any fun c => dn D k c == t)
theorem nB_start (m : Nat) : ∀ t, nB D m 0 0 t = false := fun t => by simp [nB]
theorem nB_next {m k c : Nat} (hk : rB D m k = true) : ∀ t, upd (nB D m k c) (dn D k c) true t = nB D m k (c + 1) t := fun t => by
  by_cases e : t = dn D k c
  · subst e; rw [upd_same]; simp [nB, hk, List.range_succ]
  · rw [upd_ne _ _ e]
    have : (dn D k c == t) = false := by simp; exact fun h => e h.symm
    simp [nB, hk, List.range_succ, this]
theorem nB_row {m k : Nat} : ∀ t, nB D m k 3 t = nB D m (k + 1) 0 t := fun t => by simp [nB, List.range_succ]
theorem nB_skip {m k : Nat} (hk : rB D m k = false) : ∀ t, nB D m k 0 t = nB D m (k + 1) 0 t := fun t => by simp [nB, hk, List.range_succ]
theorem nB_end {m : Nat} : ∀ t, nB D m D.1.length 0 t = rB D (m + 1) t := fun t => by simp [nB, rB]
/-- The longest one so far: the words of fewer than m letters, and those of m letters that lead to the first k states. -/
def LgI (m k : Nat) (r : Int) : Prop :=
  (r = -2 ∧ (∀ i, i < m → ¬ hasLen (lgD D) i) ∧ ∀ s, s < k → rB D m s = true → de D s = false) ∨
  (∃ j : Nat, r = j ∧ (j ≤ m ∧ (j = m → 0 < k)) ∧ hasLen (lgD D) j ∧ (∀ i, i < m → hasLen (lgD D) i → i ≤ j) ∧ ∀ s, s < k → rB D m s = true → de D s = true → j = m)
variable {D}
theorem LgI_start : LgI D 0 0 (-2) := .inl ⟨rfl, fun j hj => absurd hj (Nat.not_lt_zero _), fun s hs => absurd hs (Nat.not_lt_zero _)⟩
theorem LgI_skip {m k : Nat} {r : Int} (h : LgI D m k r) (hk : rB D m k = false ∨ de D k = false) : LgI D m (k + 1) r := by
  have key : ∀ s, s < k + 1 → rB D m s = true → de D s = true → s < k := fun s hs h1 h2 => by
    rcases Nat.lt_succ_iff_lt_or_eq.1 hs with h3 | rfl
    · exact h3
    · rcases hk with h3 | h3 <;> simp_all
  rcases h with ⟨rfl, h1, h2⟩ | ⟨j, rfl, h1, h2, h3, h4⟩
  · refine .inl ⟨rfl, h1, fun s hs hr => ?_⟩
    cases hd : de D s with
    | false => rfl
    | true => have := h2 s (key s hs hr hd) hr; rw [hd] at this; exact this
  · exact .inr ⟨j, rfl, ⟨h1.1, fun _ => Nat.succ_pos _⟩, h2, h3, fun s hs hr hd => h4 s (key s hs hr hd) hr hd⟩
theorem LgI_hit {m k : Nat} (hD : okD D) (hk : k < D.1.length) (h1 : rB D m k = true) (h2 : de D k = true) : LgI D m (k + 1) (m : Int) := by
  have hm : hasLen (lgD D) m := (rB_len D hD m).2 ⟨k, hk, h1, h2⟩
  exact .inr ⟨m, rfl, ⟨Nat.le_refl _, fun _ => Nat.succ_pos _⟩, hm, fun i hi _ => by omega, fun _ _ _ _ => rfl⟩
theorem LgI_round {m : Nat} {r : Int} (hD : okD D) (h : LgI D m D.1.length r) : LgI D (m + 1) 0 r := by
  rcases h with ⟨rfl, h1, h2⟩ | ⟨j, rfl, h1, h2, h3, h4⟩
  · refine .inl ⟨rfl, fun j hj hl => ?_, fun s hs => absurd hs (Nat.not_lt_zero _)⟩
    rcases Nat.lt_succ_iff_lt_or_eq.1 hj with h3 | rfl
    · exact h1 j h3 hl
    · obtain ⟨s, hs, hr, he⟩ := (rB_len D hD j).1 hl
      rw [h2 s hs hr] at he; cases he
  · refine .inr ⟨j, rfl, ⟨by omega, fun e => by omega⟩, h2, fun i hi hl => ?_, fun s hs => absurd hs (Nat.not_lt_zero _)⟩
    rcases Nat.lt_succ_iff_lt_or_eq.1 hi with h5 | rfl
    · exact h3 i h5 hl
    · obtain ⟨s, hs, hr, he⟩ := (rB_len D hD i).1 hl
      have := h4 s hs hr he
      omega
theorem LgI_end {r : Int} (hD : okD D) (h : LgI D (2 * D.1.length + 1) 0 r) : (if (D.1.length : Int) ≤ r then -1 else r) = lngL (lgD D) := by
  refine Lng_eq (lng_prog (nx := dn D) (en := de D) (s0 := 0) (n := D.1.length) hD.1.1 (fun s hs c hc => dn_lt hD hs hc) ?_)
  rcases h with ⟨rfl, h1, _⟩ | ⟨j, rfl, ⟨h1, h1'⟩, h2, h3, _⟩
  · exact .inl ⟨rfl, fun k hk => h1 k (by omega)⟩
  · exact .inr ⟨j, rfl, by omega, h2, fun k hk hl => h3 k (by omega) hl⟩
theorem LgI_le {m k : Nat} {r : Int} (h : LgI D m k r) : -2 ≤ r ∧ r ≤ m := by
  rcases h with ⟨rfl, _⟩ | ⟨j, rfl, h1, _⟩ <;> omega
end
end Go.Proofs.Ytofamhgkiipagaa
