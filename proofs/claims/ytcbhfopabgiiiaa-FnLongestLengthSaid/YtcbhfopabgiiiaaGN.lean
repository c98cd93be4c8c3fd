/- The word with a number: plain law above the counts.
The word with a number: the program's and the reference's.
Word number 0 is the first word. Plain. -/
import Derived.Laws.IdiomStrings
import Derived.Test.YtcbhfopabgiiiaaGM
import Derived.Test.YtcbhfopabgiiiaaGA
import Derived.Test.YtcbhfopabgiiiaaGK
set_option linter.unusedSimpArgs false
set_option linter.unusedVariables false
set_option linter.unusedSectionVars false
namespace Go.Proofs.Ytcbhfopabgiiiaa
open Go.RowKit
/-- How many words have fewer than l letters. -/
def acc (D : DfaD) : Nat → Nat
  | 0 => 0
  | l + 1 => acc D l + cnt D l 0
theorem acc_mono (D : DfaD) {j l : Nat} (h : j ≤ l) : acc D j ≤ acc D l := by
  induction l with
  | zero => obtain rfl : j = 0 := by omega
            exact Nat.le_refl _
  | succ l ih =>
    rcases Nat.lt_or_ge j (l + 1) with h1 | h1
    · have := ih (by omega)
      show acc D j ≤ acc D l + cnt D l 0
      omega
    · obtain rfl : j = l + 1 := by omega
      exact Nat.le_refl _
/-- The letter of the word with number r. -/
def wnc (D : DfaD) (l s r : Nat) : Nat := if r < cns D l s 1 then 0 else if r < cns D l s 2 then 1 else 2
/-- The word with number r among those of l letters from state s. -/
def wnS (D : DfaD) : Nat → Nat → Nat → ByteArray
  | 0, _, _ => ByteArray.empty
  | l + 1, s, r => lt (wnc D l s r) ++ wnS D l (dn D s (wnc D l s r)) (r - cns D l s (wnc D l s r))
theorem wnc_eq {D : DfaD} {l s r c : Nat} (hc : c < 3) (h1 : cns D l s c ≤ r) (h2 : r < cns D l s (c + 1)) : wnc D l s r = c := by
  have e1 : cns D l s 1 = cns D l s 0 + cnt D l (dn D s 0) := rfl
  have e2 : cns D l s 2 = cns D l s 1 + cnt D l (dn D s 1) := rfl
  unfold wnc
  rcases (by omega : c = 0 ∨ c = 1 ∨ c = 2) with rfl | rfl | rfl
  · rw [if_pos h2]
  · rw [if_neg (by omega), if_pos h2]
  · rw [if_neg (by omega), if_neg (by omega)]
theorem wnS_step {D : DfaD} {l s r c r2 : Nat} (hc : c < 3) (h1 : r2 + cns D l s c = r) (h2 : r2 < cnt D l (dn D s c)) : wnS D (l + 1) s r = lt c ++ wnS D l (dn D s c) r2 := by
  have e : cns D l s (c + 1) = cns D l s c + cnt D l (dn D s c) := rfl
  have hw := wnc_eq (D := D) (l := l) (s := s) (r := r) hc (by omega) (by omega)
  show lt (wnc D l s r) ++ wnS D l (dn D s (wnc D l s r)) (r - cns D l s (wnc D l s r)) = _
  rw [hw, show r - cns D l s c = r2 by omega]
open Classical in
noncomputable def wnV (D : DfaD) (i : Int) : ByteArray :=
  if okD D ∧ 0 ≤ i ∧ i.toNat < acc D 31 then wnS D (lst (fun l => i.toNat < acc D (l + 1))) 0 (i.toNat - acc D (lst (fun l => i.toNat < acc D (l + 1)))) else ByteArray.empty
noncomputable def wnB (D : DfaD) (i : Int) : Bool := pb (okD D ∧ 0 ≤ i ∧ i.toNat < acc D 31)
theorem wn_no {D : DfaD} {i : Int} (h : ¬ (okD D ∧ 0 ≤ i ∧ i.toNat < acc D 31)) : wnV D i = ByteArray.empty ∧ wnB D i = false := ⟨if_neg h, pb_false h⟩
theorem wn_yes {D : DfaD} {n l r : Nat} (hD : okD D) (hl : l ≤ 30) (h1 : r + acc D l = n) (h2 : r < cnt D l 0) : wnV D (n : Int) = wnS D l 0 r ∧ wnB D (n : Int) = true := by
  have e : acc D (l + 1) = acc D l + cnt D l 0 := rfl
  have hm := acc_mono D (show l + 1 ≤ 31 by omega)
  have hp : okD D ∧ 0 ≤ (n : Int) ∧ (n : Int).toNat < acc D 31 := ⟨hD, by omega, by rw [Int.toNat_natCast]; omega⟩
  have hls : lst (fun l => (n : Int).toNat < acc D (l + 1)) = l := by
    refine lst_eq (p := fun l => (n : Int).toNat < acc D (l + 1)) (by show (n : Int).toNat < _; rw [Int.toNat_natCast]; omega) fun j hj hh => ?_
    have hh' : (n : Int).toNat < acc D (j + 1) := hh
    rw [Int.toNat_natCast] at hh'
    have := acc_mono D (show j + 1 ≤ l by omega)
    omega
  refine ⟨?_, pb_true hp⟩
  unfold wnV
  rw [if_pos hp, hls, Int.toNat_natCast, show n - acc D l = r by omega]
end Go.Proofs.Ytcbhfopabgiiiaa
namespace Go.Proofs.Ytcbhfopabgiiiaa
open Go.RowKit
set_option maxRecDepth 100000
variable {S T : Nat → Prop}
theorem byteL (w : World) (c : Nat) (hc : c < 3) :
    (convert 22 9 (.slice (some ⟨w.heap.size, 0, none⟩) 1 1)).run Try.prog (w.alloc (.cells #[.int .u8 (97 + (c : Int))] 5)) = .ok (.string (lt c)) (w.alloc (.cells #[.int .u8 (97 + (c : Int))] 5)) := by
  have hz : (97 + (c : Int)) = (UInt8.ofNat (97 + c)).toNat := by rw [UInt8.toNat_ofNat']; omega
  rw [hz]
  refine run_convert_bytes_back (w.alloc (.cells #[.int .u8 (UInt8.ofNat (97 + c)).toNat] 5)) 22 9 5 ⟨w.heap.size, 0, none⟩ 1 [UInt8.ofNat (97 + c)] Try.underlying22 Try.underlying5 Try.underlying9 (fun j hj => ?_)
  have : j = 0 := by simpa using hj
  subst this
  simp [Addr.add, World.cell?_alloc_mark]
end Go.Proofs.Ytcbhfopabgiiiaa
namespace Go.Proofs.Ytcbhfopabgiiiaa
open Go.RowKit
def keyF (a : Nat) (w : List (Fin 3)) : Nat := w.foldl (fun n c => 3 * n + c.val + 1) a
theorem keyF_lt {a b : Nat} : ∀ {u v : List (Fin 3)}, u.length = v.length → a < b → keyF a u < keyF b v := by
  intro u
  induction u generalizing a b with
  | nil => intro v hl h; cases v with
    | nil => exact h
    | cons c v => simp at hl
  | cons c u ih => intro v hl h; cases v with
    | nil => simp at hl
    | cons d v =>
      show keyF (3 * a + c.val + 1) u < keyF (3 * b + d.val + 1) v
      exact ih (by simpa using hl) (by have := c.isLt; omega)
theorem key_bd (w : List (Fin 3)) : 3 ^ w.length ≤ 2 * key w + 1 ∧ 2 * key w + 3 ≤ 3 ^ (w.length + 1) := by
  refine snocCases (p := fun w => 3 ^ w.length ≤ 2 * key w + 1 ∧ 2 * key w + 3 ≤ 3 ^ (w.length + 1)) ⟨by decide, by decide⟩ (fun w c h => ?_) w
  rw [key_snoc, List.length_append, List.length_singleton, Nat.pow_succ 3 (w.length + 1)]
  have e := Nat.pow_succ 3 w.length
  have := c.isLt
  omega
theorem key_short {u v : List (Fin 3)} (h : u.length < v.length) : key u < key v := by
  have h1 := (key_bd u).2
  have h2 := (key_bd v).1
  have h3 : 3 ^ (u.length + 1) ≤ 3 ^ v.length := Nat.pow_le_pow_right (by decide) h
  omega
/-- The text of a word. -/
def tx : List (Fin 3) → ByteArray
  | [] => ByteArray.empty
  | c :: w => lt c.val ++ tx w
theorem tx_append (u v : List (Fin 3)) : tx (u ++ v) = tx u ++ tx v := by
  induction u with
  | nil => simp [tx]
  | cons c u ih => simp [tx, ih, ByteArray.append_assoc]
theorem tx_size (u : List (Fin 3)) : (tx u).size = u.length := by
  induction u with
  | nil => rfl
  | cons c u ih =>
    simp only [tx, ByteArray.size_append, ih, List.length_cons]
    have : (lt c.val).size = 1 := rfl
    omega
theorem wS_key (w : List (Fin 3)) : wS (key w) = tx w := by
  refine snocCases (p := fun w => wS (key w) = tx w) (by show wS 0 = _; rw [wS_zero]; rfl) (fun w c h => ?_) w
  rw [key_snoc, wS_succ _ _ c.isLt, h, tx_append]
  simp [tx]
theorem cnt_pos {D : DfaD} : ∀ {u : List (Fin 3)} {s : Nat}, lg (dn D) (de D) s u = true → 0 < cnt D u.length s := by
  intro u
  induction u with
  | nil => intro s h; have h' : de D s = true := h; simp [cnt, h']
  | cons c u ih =>
    intro s h
    have h1 := ih (s := dn D s c.val) h
    show 0 < cnt D u.length (dn D s 0) + cnt D u.length (dn D s 1) + cnt D u.length (dn D s 2)
    rcases (by omega : c = 0 ∨ c = 1 ∨ c = 2) with rfl | rfl | rfl
    · have h2 : 0 < cnt D u.length (dn D s 0) := h1; omega
    · have h2 : 0 < cnt D u.length (dn D s 1) := h1; omega
    · have h2 : 0 < cnt D u.length (dn D s 2) := h1; omega
/-- The word that wnS has for number 0 is an accepted one, and the least. -/
theorem wnS_least (D : DfaD) : ∀ (l s : Nat), 0 < cnt D l s → ∃ u : List (Fin 3), u.length = l ∧ lg (dn D) (de D) s u = true ∧ wnS D l s 0 = tx u ∧ ∀ (a : Nat) (v : List (Fin 3)), v.length = l → lg (dn D) (de D) s v = true → keyF a u ≤ keyF a v := by
  intro l
  induction l with
  | zero =>
    intro s h
    refine ⟨[], rfl, ?_, rfl, fun a v hv _ => ?_⟩
    · show de D s = true
      unfold cnt at h
      by_cases hd : de D s = true
      · exact hd
      · rw [if_neg hd] at h; omega
    · have := List.eq_nil_of_length_eq_zero hv; subst this; exact Nat.le_refl _
  | succ l ih =>
    intro s h
    have hc : cnt D (l + 1) s = cnt D l (dn D s 0) + cnt D l (dn D s 1) + cnt D l (dn D s 2) := rfl
    have key : ∃ c : Fin 3, wnc D l s 0 = c.val ∧ 0 < cnt D l (dn D s c.val) ∧ ∀ d : Fin 3, 0 < cnt D l (dn D s d.val) → c.val ≤ d.val := by
      have e0 : cns D l s 0 = 0 := rfl
      have e1 : cns D l s 1 = cns D l s 0 + cnt D l (dn D s 0) := rfl
      have e2 : cns D l s 2 = cns D l s 1 + cnt D l (dn D s 1) := rfl
      by_cases h0 : 0 < cnt D l (dn D s 0)
      · exact ⟨0, by unfold wnc; rw [if_pos (by omega)]; rfl, h0, fun d _ => Nat.zero_le _⟩
      · by_cases h1 : 0 < cnt D l (dn D s 1)
        · refine ⟨1, by unfold wnc; rw [if_neg (by omega), if_pos (by omega)]; rfl, h1, fun d hd => ?_⟩
          rcases (by omega : d = 0 ∨ d = 1 ∨ d = 2) with rfl | rfl | rfl
          · exact absurd hd h0
          · exact Nat.le_refl _
          · decide
        · refine ⟨2, by unfold wnc; rw [if_neg (by omega), if_neg (by omega)]; rfl, by show 0 < cnt D l (dn D s 2); omega, fun d hd => ?_⟩
          rcases (by omega : d = 0 ∨ d = 1 ∨ d = 2) with rfl | rfl | rfl
          · exact absurd hd h0
          · exact absurd hd h1
          · exact Nat.le_refl _
    obtain ⟨c, hw, hp, hm⟩ := key
    obtain ⟨u, hu1, hu2, hu3, hu4⟩ := ih _ hp
    refine ⟨c :: u, by simp [hu1], hu2, ?_, fun a v hv hl => ?_⟩
    · show lt (wnc D l s 0) ++ wnS D l (dn D s (wnc D l s 0)) (0 - cns D l s (wnc D l s 0)) = lt c.val ++ tx u
      rw [hw, Nat.zero_sub, hu3]
    · cases v with
      | nil => simp at hv
      | cons d v =>
        have hv' : v.length = l := by simpa using hv
        have hd := hm d (by have := cnt_pos (D := D) (u := v) (s := dn D s d.val) hl; rwa [hv'] at this)
        show keyF (3 * a + c.val + 1) u ≤ keyF (3 * a + d.val + 1) v
        rcases Nat.lt_or_ge c.val d.val with h1 | h1
        · exact Nat.le_of_lt (keyF_lt (by rw [hu1, hv']) (by omega))
        · have e : d.val = c.val := by omega
          have hl2 : lg (dn D) (de D) (dn D s d.val) v = true := hl
          rw [e] at hl2 ⊢
          exact hu4 _ v hv' hl2
theorem cnt_word {D : DfaD} {l s : Nat} (h : 0 < cnt D l s) : ∃ u : List (Fin 3), u.length = l ∧ lg (dn D) (de D) s u = true := let ⟨u, h1, h2, _⟩ := wnS_least D l s h; ⟨u, h1, h2⟩
theorem acc_zero {D : DfaD} {l : Nat} (h : ∀ j, j < l → cnt D j 0 = 0) : acc D l = 0 := by
  induction l with
  | zero => rfl
  | succ l ih =>
    show acc D l + cnt D l 0 = 0
    rw [ih fun j hj => h j (by omega), h l (by omega)]
/-- Word number 0 is the first word, if that is not too long. -/
theorem first_number (D : DfaD) (h : (foV D).size ≤ 30) : wnV D 0 = foV D ∧ wnB D 0 = foB D := by
  by_cases hD : okD D
  · obtain ⟨e1, e2⟩ := fo_yes hD
    rw [e1] at h
    rw [e1, e2]
    by_cases hw : hasW (lgD D)
    · obtain ⟨w, hw'⟩ := hw
      have hp : lgD D (wd (key w)) = true := by rw [wd_key]; exact hw'
      obtain ⟨_, hn, _⟩ := lst_spec (p := fun n => lgD D (wd n) = true) hp
      have hmin : ∀ v, lgD D v = true → lst (fun n => lgD D (wd n) = true) ≤ key v := fun v hv => (lst_spec (p := fun n => lgD D (wd n) = true) (n := key v) (by show lgD D (wd (key v)) = true; rw [wd_key]; exact hv)).1
      have ef : fstW (lgD D) = wS (lst (fun n => lgD D (wd n) = true)) := if_pos ⟨w, hw'⟩
      have eb : fwB (lgD D) = true := pb_true ⟨w, hw'⟩
      rw [ef] at h ⊢
      rw [eb]
      generalize lst (fun n => lgD D (wd n) = true) = n at *
      have hk : key (wd n) = n := key_wd n
      have ht : wS n = tx (wd n) := by rw [← hk, wS_key, hk]
      rw [ht, tx_size] at h
      have hl := cnt_pos (D := D) (u := wd n) (s := 0) hn
      have hz : ∀ j, j < (wd n).length → cnt D j 0 = 0 := fun j hj => by
        rcases Nat.eq_zero_or_pos (cnt D j 0) with h0 | h0
        · exact h0
        · obtain ⟨v, hv1, hv2⟩ := cnt_word h0
          have h3 := key_short (u := v) (v := wd n) (by rw [hv1]; exact hj)
          have h4 := hmin v hv2
          omega
      have hy := wn_yes (n := 0) (l := (wd n).length) (r := 0) hD h (by rw [acc_zero hz]) hl
      obtain ⟨u, hu1, hu2, hu3, hu4⟩ := wnS_least D _ 0 hl
      have h5 := hu4 0 (wd n) rfl hn
      have h6 := hmin u hu2
      have h7 : key u ≤ key (wd n) := h5
      have h8 : key u = n := by omega
      have h9 : u = wd n := by rw [← h8, wd_key]
      refine ⟨?_, hy.2⟩
      rw [show (0 : Int) = ((0 : Nat) : Int) from rfl, hy.1, hu3, h9, ht]
    · have h0 : acc D 31 = 0 := acc_zero fun j _ => by
        rcases Nat.eq_zero_or_pos (cnt D j 0) with h0 | h0
        · exact h0
        · obtain ⟨v, _, hv⟩ := cnt_word h0
          exact absurd ⟨v, hv⟩ hw
      have hn := wn_no (D := D) (i := 0) (fun ⟨_, _, h3⟩ => by rw [h0] at h3; omega)
      rw [fstW_no hw, hn.1, hn.2]
      exact ⟨rfl, (pb_false hw).symm⟩
  · obtain ⟨e1, e2⟩ := fo_no hD
    have hn := wn_no (D := D) (i := 0) (fun h => hD h.1)
    rw [e1, e2]
    exact hn
end Go.Proofs.Ytcbhfopabgiiiaa
