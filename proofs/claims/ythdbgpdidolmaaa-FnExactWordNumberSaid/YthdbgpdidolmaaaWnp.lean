/- The word with a number: plain law above the counts. -/
import Derived.Test.YthdbgpdidolmaaaCnt
import Derived.Test.YthdbgpdidolmaaaFwd
namespace Go.Proofs.Ythdbgpdidolmaaa
open Go.RowKit
/-- How many words have fewer than l letters. -/
def acc (D : DfaD) : Nat → Nat
  | 0 => 0
  | l + 1 => acc D l + cnt D l 0
theorem acc_mono (D : DfaD) {j l : Nat} (h : j ≤ l) : acc D j ≤ acc D l := by
  induction l with
  | zero => obtain rfl : j = 0 := by omega
            exact Nat.le_refl _
  | succ l ih =>
    rcases Nat.lt_or_ge j (l + 1) with h1 | h1
    · have := ih (by omega)
      show acc D j ≤ acc D l + cnt D l 0
      omega
    · obtain rfl : j = l + 1 := by omega
      exact Nat.le_refl _
/-- The letter of the word with number r. -/
def wnc (D : DfaD) (l s r : Nat) : Nat := if r < cns D l s 1 then 0 else if r < cns D l s 2 then 1 else 2
/-- The word with number r among those of l letters from state s. -/
def wnS (D : DfaD) : Nat → Nat → Nat → ByteArray
  | 0, _, _ => ByteArray.empty
  | l + 1, s, r => lt (wnc D l s r) ++ wnS D l (dn D s (wnc D l s r)) (r - cns D l s (wnc D l s r))
theorem wnc_eq {D : DfaD} {l s r c : Nat} (hc : c < 3) (h1 : cns D l s c ≤ r) (h2 : r < cns D l s (c + 1)) : wnc D l s r = c := by
  have e1 : cns D l s 1 = cns D l s 0 + cnt D l (dn D s 0) := rfl
  have e2 : cns D l s 2 = cns D l s 1 + cnt D l (dn D s 1) := rfl
  unfold wnc
  rcases (by omega : c = 0 ∨ c = 1 ∨ c = 2) with rfl | rfl | rfl
  · rw [if_pos h2]
  · rw [if_neg (by omega), if_pos h2]
  · rw [if_neg (by omega), if_neg (by omega)]
theorem wnS_step {D : DfaD} {l s r c r2 : Nat} (hc : c < 3) (h1 : r2 + cns D l s c = r) (h2 : r2 < cnt D l (dn D s c)) : wnS D (l + 1) s r = lt c ++ wnS D l (dn D s c) r2 := by
  have e : cns D l s (c + 1) = cns D l s c + cnt D l (dn D s c) := rfl
  have hw := wnc_eq (D := D) (l := l) (s := s) (r := r) hc (by omega) (by omega)
  show lt (wnc D l s r) ++ wnS D l (dn D s (wnc D l s r)) (r - cns D l s (wnc D l s r)) = _
  rw [hw, show r - cns D l s c = r2 by omega]
open Classical in
noncomputable def wnV (D : DfaD) (i : Int) : ByteArray :=
  if okD D ∧ 0 ≤ i ∧ i.toNat < acc D 31 then wnS D (lst (fun l => i.toNat < acc D (l + 1))) 0 (i.toNat - acc D (lst (fun l => i.toNat < acc D (l + 1)))) else ByteArray.empty
noncomputable def wnB (D : DfaD) (i : Int) : Bool := pb (okD D ∧ 0 ≤ i ∧ i.toNat < acc D 31)
theorem wn_no {D : DfaD} {i : Int} (h : ¬ (okD D ∧ 0 ≤ i ∧ i.toNat < acc D 31)) : wnV D i = ByteArray.empty ∧ wnB D i = false := ⟨if_neg h, pb_false h⟩
theorem wn_yes {D : DfaD} {n l r : Nat} (hD : okD D) (hl : l ≤ 30) (h1 : r + acc D l = n) (h2 : r < cnt D l 0) : wnV D (n : Int) = wnS D l 0 r ∧ wnB D (n : Int) = true := by
  have e : acc D (l + 1) = acc D l + cnt D l 0 := rfl
  have hm := acc_mono D (show l + 1 ≤ 31 by omega)
  have hp : okD D ∧ 0 ≤ (n : Int) ∧ (n : Int).toNat < acc D 31 := ⟨hD, by omega, by rw [Int.toNat_natCast]; omega⟩
  have hls : lst (fun l => (n : Int).toNat < acc D (l + 1)) = l := by
    refine lst_eq (p := fun l => (n : Int).toNat < acc D (l + 1)) (by show (n : Int).toNat < _; rw [Int.toNat_natCast]; omega) fun j hj hh => ?_
    have hh' : (n : Int).toNat < acc D (j + 1) := hh
    rw [Int.toNat_natCast] at hh'
    have := acc_mono D (show j + 1 ≤ l by omega)
    omega
  refine ⟨?_, pb_true hp⟩
  unfold wnV
  rw [if_pos hp, hls, Int.toNat_natCast, show n - acc D l = r by omega]
end Go.Proofs.Ythdbgpdidolmaaa
