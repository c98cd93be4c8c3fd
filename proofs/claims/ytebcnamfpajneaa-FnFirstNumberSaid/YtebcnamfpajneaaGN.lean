/- The word with a number: plain law above the counts.
The word with a number: the program's and the reference's.
Word number 0 is the first word. Plain. -/
import Derived.Laws.IdiomStrings
import Derived.Test.YtebcnamfpajneaaGM
import Derived.Test.YtebcnamfpajneaaGA
import Derived.Test.YtebcnamfpajneaaGK
set_option linter.unusedSimpArgs false
set_option linter.unusedVariables false
set_option linter.unusedSectionVars false
namespace Go.Proofs.Ytebcnamfpajneaa
open Go.RowKit
/-- How many words have fewer than l letters. -/
def acc (D : DfaD) : Nat → Nat
  | 0 => 0
  | l + 1 => acc D l + cnt D l 0
theorem acc_mono (D : DfaD) {j l : Nat} (h : j ≤ l) : acc D j ≤ acc D l := by
  induction l with
  | zero => obtain rfl : j = 0 := by omega
            exact Nat.le_refl _
  | succ l ih =>
    rcases Nat.lt_or_ge j (l + 1) with h1 | h1
    · have := ih (by omega)
      show acc D j ≤ acc D l + cnt D l 0
      omega
    · obtain rfl : j = l + 1 := by omega
      exact Nat.le_refl _
/-- The letter of the word with number r. -/
def wnc (D : DfaD) (l s r : Nat) : Nat := if r < cns D l s 1 then 0 else if r < cns D l s 2 then 1 else 2
/-- The word with number r among those of l letters from state s. -/
def wnS (D : DfaD) : Nat → Nat → Nat → ByteArray
  | 0, _, _ => ByteArray.empty
  | l + 1, s, r => lt (wnc D l s r) ++ wnS D l (dn D s (wnc D l s r)) (r - cns D l s (wnc D l s r))
theorem wnc_eq {D : DfaD} {l s r c : Nat} (hc : c < 3) (h1 : cns D l s c ≤ r) (h2 : r < cns D l s (c + 1)) : wnc D l s r = c := by
  have e1 : cns D l s 1 = cns D l s 0 + cnt D l (dn D s 0) := rfl
  have e2 : cns D l s 2 = cns D l s 1 + cnt D l (dn D s 1) := rfl
  unfold wnc
  rcases (by omega : c = 0 ∨ c = 1 ∨ c = 2) with rfl | rfl | rfl
  · rw [if_pos h2]
  · rw [if_neg (by omega), if_pos h2]
  · rw [if_neg (by omega), if_neg (by omega)]
theorem wnS_step {D : DfaD} {l s r c r2 : Nat} (hc : c < 3) (h1 : r2 + cns D l s c = r) (h2 : r2 < cnt D l (dn D s c)) : wnS D (l + 1) s r = lt c ++ wnS D l (dn D s c) r2 := by
  have e : cns D l s (c + 1) = cns D l s c + cnt D l (dn D s c) := rfl
  have hw := wnc_eq (D := D) (l := l) (s := s) (r := r) hc (by omega) (by omega)
  show lt (wnc D l s r) ++ wnS D l (dn D s (wnc D l s r)) (r - cns D l s (wnc D l s r)) = _
  rw [hw, show r - cns D l s c = r2 by omega]
open Classical in
noncomputable def wnV (D : DfaD) (i : Int) : ByteArray :=
  if okD D ∧ 0 ≤ i ∧ i.toNat < acc D 31 then wnS D (lst (fun l => i.toNat < acc D (l + 1))) 0 (i.toNat - acc D (lst (fun l => i.toNat < acc D (l + 1)))) else ByteArray.empty
noncomputable def wnB (D : DfaD) (i : Int) : Bool := pb (okD D ∧ 0 ≤ i ∧ i.toNat < acc D 31)
theorem wn_no {D : DfaD} {i : Int} (h : ¬ (okD D ∧ 0 ≤ i ∧ i.toNat < acc D 31)) : wnV D i = ByteArray.empty ∧ wnB D i = false := ⟨if_neg h, pb_false h⟩
theorem wn_yes {D : DfaD} {n l r : Nat} (hD : okD D) (hl : l ≤ 30) (h1 : r + acc D l = n) (h2 : r < cnt D l 0) : wnV D (n : Int) = wnS D l 0 r ∧ wnB D (n : Int) = true := by
  have e : acc D (l + 1) = acc D l + cnt D l 0 := rfl
  have hm := acc_mono D (show l + 1 ≤ 31 by omega)
  have hp : okD D ∧ 0 ≤ (n : Int) ∧ (n : Int).toNat < acc D 31 := ⟨hD, by omega, by rw [Int.toNat_natCast]; omega⟩
  have hls : lst (fun l => (n : Int).toNat < acc D (l + 1)) = l := by
    refine lst_eq (p := fun l => (n : Int).toNat < acc D (l + 1)) (by show (n : Int).toNat < _; rw [Int.toNat_natCast]; omega) fun j hj hh => ?_
    have hh' : (n : Int).toNat < acc D (j + 1) := hh
    rw [Int.toNat_natCast] at hh'
    have := acc_mono D (show j + 1 ≤ l by omega)
    omega
  refine ⟨?_, pb_true hp⟩
  unfold wnV
  rw [if_pos hp, hls, Int.toNat_natCast, show n - acc D l = r by omega]
end Go.Proofs.Ytebcnamfpajneaa
namespace Go.Proofs.Ytebcnamfpajneaa
open Go.RowKit
set_option maxRecDepth 100000
variable {S T : Nat → Prop}
theorem byteL (w : World) (c : Nat) (hc : c < 3) :
    (convert 22 9 (.slice (some ⟨w.heap.size, 0, none⟩) 1 1)).run Try.prog (w.alloc (.cells #[.int .u8 (97 + (c : Int))] 5)) = .ok (.string (lt c)) (w.alloc (.cells #[.int .u8 (97 + (c : Int))] 5)) := by
  have hz : (97 + (c : Int)) = (UInt8.ofNat (97 + c)).toNat := by rw [UInt8.toNat_ofNat']; omega
  rw [hz]
  refine run_convert_bytes_back (w.alloc (.cells #[.int .u8 (UInt8.ofNat (97 + c)).toNat] 5)) 22 9 5 ⟨w.heap.size, 0, none⟩ 1 [UInt8.ofNat (97 + c)] Try.underlying22 Try.underlying5 Try.underlying9 (fun j hj => ?_)
  have : j = 0 := by simpa using hj
  subst this
  simp [Addr.add, World.cell?_alloc_mark]
set_option maxHeartbeats 4000000 in
theorem WordNumber_c (vn ve : Value) (D : DfaD) (i : Int) (w : World) (h : DfaR S w vn ve D) (hi : -9223372036854775808 ≤ i ∧ i ≤ 9223372036854775807) :
    Calls Try.prog 36 #[.agg #[vn, ve], .int .i64 i] w (RO w (.tuple #[.string (wnV D i), .bool (wnB D i)])) := by
  obtain ⟨a, c, b, d, rfl, rfl, hn, hm⟩ := (h).shapes
  obtain ⟨W, hW⟩ : ∃ W, W = w.alloc (.cells #[.slice a D.1.length c, .slice b D.2.length d] 26) := ⟨_, rfl⟩
  have Hb0 : Hid (Below w.heap.size w W) := by rw [hW]; exact (Below.refl _ _).alloc (Nat.le_refl _) _
  have c0 : W.cell? ⟨w.heap.size, 0, none⟩ = some (.slice a D.1.length c) := by rw [hW, World.cell?_alloc_mark]; rfl
  have c1 : W.cell? ⟨w.heap.size, 1, none⟩ = some (.slice b D.2.length d) := by rw [hW, World.cell?_alloc_mark]; rfl
  have K0 : Hid (W.heap[w.heap.size]? = some (.cells #[.slice a D.1.length c, .slice b D.2.length d] 26 (0, 0))) := by rw [hW]; exact blkNew _ _ rfl
  have Hz : Hid (W.heap.size = w.heap.size + 1) := by rw [hW]; simp [Hid]
  have H := Lib.hid ((h).stay (kpB Hb0.out)); clear h
  have HW := Lib.hid hW; clear hW
  have hbs := Hb0.out.size
  rw [HW.out] at c0 c1
  go_enter Try.func36, Try.ntmps36
  go_wp2_with fail
  clear c0 c1
  rw [← HW.out]
  refine (DfaValid_c _ _ D W H.out).mono ?_
  rintro e w1 ⟨b1, rfl, hb1, hv1⟩
  have hB := Hb0.out.trans (hb1.mono hbs)
  obtain ⟨d0, d1, _, _⟩ := blk2 (blkBel hb1 K0.out)
  cases b1
  · have hp := Lib.hid (hbF hv1); clear hv1
    have Hv := Lib.hid (wn_no (D := D) (i := i) (fun h => hp.out h.1))
    go_wp2
    go_ret2
    exact ⟨by rw [Hv.out.1, Hv.out.2]; rfl, hB⟩
  have HD := Lib.hid (hbT hv1); clear hv1
  by_cases hi0 : i < 0
  · have Hv := Lib.hid (wn_no (D := D) (i := i) (fun h => by have := h.2.1; omega))
    go_wp2
    go_ret2
    exact ⟨by rw [Hv.out.1, Hv.out.2]; rfl, hB⟩
  have hi1 : 0 ≤ i := by omega
  obtain ⟨n, rfl⟩ := Int.eq_ofNat_of_zero_le hi1
  have hn63 : n ≤ 9223372036854775807 := by omega
  clear hi hi1
  have h0 : 0 < D.1.length := HD.out.1.1
  have hn40 : D.1.length ≤ 40 := HD.out.1.2
  go_wp2_with fail
  refine (counts_c _ _ D _ (H.out.stay (kpB hb1)) HD.out).mono ?_
  rintro e w3 ⟨v, rfl, hb3, hv⟩
  obtain ⟨g, rfl, hg⟩ := hv.out
  have HG := Lib.hid hg
  have hB3 := hb1.trans (hb3.mono hb1.size)
  clear hg hv hb3 hb1 hB d0 d1
  go_wp2_with ((refine wpList_store_mid rfl 64 (.tmp 6) (.tmp 20) rfl w3.heap.size 0 _ rfl rfl (slots_there _ _ _) (slots_info _ _) (slots_one _ _) ?_); change wpList _ _ _ _ _ (slotsW w3 D.1.length g); obtain ⟨W5, hW5⟩ : ∃ W5, W5 = slotsW w3 D.1.length g := ⟨_, rfl⟩; rw [← hW5]; have HW5 := Lib.hid hW5; clear hW5)
  have hb5 : Below w3.heap.size w3 W5 := by rw [HW5.out]; exact slots_below _ _ _
  have hB5 := hB3.trans (hb5.mono hB3.size)
  have HC : Hid (∀ i, i < 31 → W5.cell? ⟨w3.heap.size, i, none⟩ = some (.slice (some ⟨g i, 0, none⟩) D.1.length D.1.length)) := fun i hi => by rw [HW5.out]; exact slots_cell _ _ _ hi
  have HG5 : Hid (∀ i, i < 31 → RowI W5 (g i) (cntL D i)) := fun i hi => (HG.out i hi).2.stay hb5
  have H5 := Lib.hid (H.out.stay (kpB hB5))
  have K5 := Lib.hid (blkBel hB5 K0.out)
  have hBf := Lib.hid (Hb0.out.trans (hB5.mono hbs))
  generalize hB0 : w3.heap.size = B at *
  have HB0 := Lib.hid hB0
  clear HG hb5 HW5 hB0 hB3 hB5
  go_loop [1, 7] (fun v1 v7 => ∃ l r : Nat, l ≤ 30 ∧ v7 = .int .i64 l ∧ v1 = .int .i64 r ∧ Hid (r + acc D l = n)) (fun _ v7 => 31 - (intOf v7).toNat)
  case atStart => exact ⟨0, n, by omega, rfl, rfl, rfl⟩
  case round =>
    obtain ⟨l, r, hl, rfl, rfl, Hr⟩ := hrel
    have hr63 : r ≤ 9223372036854775807 := by have := Hr.out; omega
    have hl31 : (l : Int) < 31 := by omega
    have hcb := cnt_bd D hl 0
    have hc1 := HC.out l (by omega)
    have hc := (HG5.out l (by omega)).cell (i := 0) (by rw [cntL_len]; exact h0)
    rw [cntL_get D l h0] at hc
    have hacc : Hid (acc D (l + 1) = acc D l + cnt D l 0) := rfl
    by_cases hge : cnt D l 0 ≤ r
    · have hgeI : ((cnt D l 0 : Nat) : Int) ≤ (r : Int) := by omega
      obtain ⟨z, hz⟩ : ∃ z, z = cnt D l 0 := ⟨_, rfl⟩
      rw [← hz] at hc hcb hge hgeI hacc
      have Hz := Lib.hid hz
      clear hz
      generalize g l = G at *
      by_cases hl30 : l = 30
      · have Hv := Lib.hid (wn_no (D := D) (i := (n : Int)) (fun h => by
          have h1 := h.2.2
          rw [Int.toNat_natCast] at h1
          have h2 := Hr.out
          have h3 : acc D 31 = acc D 30 + z := by have := hacc.out; rw [hl30] at this; exact this
          rw [hl30] at h2
          omega))
        have hl30I : (30 : Int) < (l : Int) + 1 := by omega
        clear hl30
        go_wp2
        go_ret2
        exact ⟨by rw [Hv.out.1, Hv.out.2]; rfl, hBf.out⟩
      · have hl30I : ¬ ((30 : Int) < (l : Int) + 1) := by omega
        have Hn : Hid (r - z + acc D (l + 1) = n) := by have := Hr.out; have := hacc.out; unfold Hid; omega
        clear hl30
        go_wp2
        go_round
        case rel => exact ⟨l + 1, r - z, by omega, by go_num, by rw [show ((r - z : Nat) : Int) = (r : Int) - (z : Int) by omega], Hn⟩
        case measure => simp [intOf]; omega
    · have hlt : r < cnt D l 0 := by omega
      have hgeI : ¬ (((cnt D l 0 : Nat) : Int) ≤ (r : Int)) := by omega
      have Hv := Lib.hid (wn_yes HD.out hl Hr.out hlt)
      have Hlt := Lib.hid hlt
      obtain ⟨z, hz⟩ : ∃ z, z = cnt D l 0 := ⟨_, rfl⟩
      rw [← hz] at hc hcb hge hgeI hlt
      have Hz := Lib.hid hz
      clear hz hacc
      obtain ⟨G, hG⟩ : ∃ G, G = g l := ⟨_, rfl⟩
      rw [← hG] at hc1 hc
      clear hG
      go_wp2_with fail
      clear hc1 hc
      have hlI : ((l : Nat) : Int) ≤ 30 := by omega
      go_loopw [1, 8, 9, 10] (fun v1 v8 v9 v10 wr => ∃ (m st r2 : Nat) (z : ByteArray) (j : Int), v1 = .int .i64 r2 ∧ v8 = .string z ∧ v9 = .int .i64 st ∧ v10 = .int .i64 j ∧ Hid (j = (m : Int) - 1) ∧ m ≤ 30 ∧ st < D.1.length ∧ Hid (r2 < cnt D m st) ∧ z.size + m ≤ 30 ∧
        Hid (z ++ wnS D m st r2 = wnS D l 0 r) ∧ ∃ q, wr = W5.drewN q) (fun _ _ _ v10 _ => (intOf v10 + 1).toNat)
      case atStart => exact ⟨l, 0, r, ⟨#[]⟩, _, rfl, rfl, rfl, rfl, rfl, hl, h0, Hlt, by show 0 + l ≤ 30; omega, ByteArray.empty_append, 0, rfl⟩
      case round =>
        obtain ⟨m, st, r2, z, j, rfl, rfl, rfl, rfl, Hj, hm30, hst, Hr2, hzs, Hz2, nq, rfl⟩ := hrel
        rcases Nat.eq_zero_or_pos m with hm0 | hm0
        · subst hm0
          have hj : j < 0 := by have := Hj.out; omega
          have hzf : Hid (z = wnS D l 0 r) := by rw [← Hz2.out]; exact ByteArray.append_empty.symm
          have hBf2 := Lib.hid (belDrewN hBf.out nq)
          clear Hz2 Hj
          go_wp2
          go_ret2
          refine ⟨?_, hBf2.out⟩
          rw [Hv.out.1, Hv.out.2, ← hzf.out]
          rfl
        · obtain ⟨m', rfl⟩ : ∃ m', m = m' + 1 := ⟨m - 1, by omega⟩
          obtain rfl : j = (m' : Int) := by have := Hj.out; omega
          clear Hj
          have hr263 : (r2 : Int) ≤ 205891132094649 := by have := cnt_bd D hm30 st; have := Hr2.out; omega
          have hstI : (st : Int) < (D.1.length : Int) := by omega
          have hm31 : (m' : Int) < 31 := by omega
          obtain ⟨bn, on, br, or_, cr, e1, hrW, _, hcW⟩ := H5.out.row HD.out hst
          subst e1
          have HcW := Lib.hid hcW
          have hcm := HC.out m' (by omega)
          obtain ⟨gm, hgm⟩ : ∃ gm, gm = g m' := ⟨_, rfl⟩
          have HGm := Lib.hid (HG5.out m' (by omega))
          rw [← hgm] at hcm HGm
          obtain ⟨k0, k1, _, _⟩ := blk2 K5.out
          clear hcW hgm
          go_wp2_with fail
          go_loopw [1, 11] (fun v1 v11 wr => ∃ (c r3 : Nat), c ≤ 2 ∧ v1 = .int .i64 r3 ∧ v11 = .int .i64 c ∧ Hid (r3 + cns D m' st c = r2) ∧ ∃ q, wr = W5.drewN q) (fun _ v11 _ => 3 - (intOf v11).toNat)
          case atStart => exact ⟨0, r2, by omega, rfl, rfl, rfl, nq, rfl⟩
          case round =>
            obtain ⟨c, r3, hc, rfl, rfl, Hr3, nq2, rfl⟩ := hrel
            have hr3I : (r3 : Int) ≤ 205891132094649 := by have := Hr3.out; omega
            have hs2 := HcW.out c (by omega)
            have hs3 := dn_lt HD.out hst (show c < 3 by omega)
            have hcg := HGm.out.cell (i := dn D st c) (by rw [cntL_len]; exact hs3)
            rw [cntL_get D m' hs3] at hcg
            have hcb := cnt_bd D (show m' ≤ 30 by omega) (dn D st c)
            have hcI : (c : Int) < 3 := by omega
            have Hns : Hid (cns D m' st (c + 1) = cns D m' st c + cnt D m' (dn D st c)) := rfl
            have Hc3 : Hid (cns D m' st 3 = cnt D (m' + 1) st) := cns_three D m' st
            by_cases hge : cnt D m' (dn D st c) ≤ r3
            · have hc2 : c + 1 ≤ 2 := by
                rcases Nat.lt_or_ge c 2 with h1 | h1
                · omega
                · exfalso
                  obtain rfl : c = 2 := by omega
                  have e1 := Hr3.out; have e2 := Hns.out; have e3 := Hc3.out; have e4 := Hr2.out
                  have e5 : cns D m' st (2 + 1) = cns D m' st 3 := rfl
                  omega
              have Hn : Hid (r3 - cnt D m' (dn D st c) + cns D m' st (c + 1) = r2) := by have := Hr3.out; have := Hns.out; unfold Hid; omega
              obtain ⟨y, hy⟩ : ∃ y, y = cnt D m' (dn D st c) := ⟨_, rfl⟩
              obtain ⟨u, hu⟩ : ∃ u, u = dn D st c := ⟨_, rfl⟩
              rw [← hy] at hcb hge hcg Hn
              rw [← hu] at hcg hs2 hs3
              have huI : (u : Int) < (D.1.length : Int) := by omega
              have hgeI : (y : Int) ≤ (r3 : Int) := by omega
              clear hy hu Hns Hc3
              go_wp2_with fail
              go_quiet (fail)
              go_wp2_with fail
              go_quiet (fail)
              go_wp2
              go_roundw
              case rel => exact ⟨c + 1, r3 - y, by omega, by rw [show ((r3 - y : Nat) : Int) = (r3 : Int) - (y : Int) by omega], by go_num, Hn, _, rfl⟩
              case measure => simp [intOf]; omega
            · have hlt2 : r3 < cnt D m' (dn D st c) := by omega
              have Hst := Lib.hid (wnS_step (D := D) (l := m') (s := st) (show c < 3 by omega) Hr3.out hlt2)
              have Hlt2 := Lib.hid hlt2
              obtain ⟨y, hy⟩ : ∃ y, y = cnt D m' (dn D st c) := ⟨_, rfl⟩
              obtain ⟨u, hu⟩ : ∃ u, u = dn D st c := ⟨_, rfl⟩
              rw [← hy] at hcb hge hcg hlt2
              rw [← hu] at hcg hs2 hs3 Hst Hlt2
              have huI : (u : Int) < (D.1.length : Int) := by omega
              have hgeI : ¬ ((y : Int) ≤ (r3 : Int)) := by omega
              have hlts : (lt c).size ≤ 1 := Nat.le_refl _
              have hcc : ¬ (9223372036854775807 < z.size + (lt c).size) := by omega
              clear hy hu Hns Hc3
              go_wp2_with fail
              go_quiet (fail)
              go_wp2_with fail
              refine (letterText_c c _ (by omega)).mono ?_
              rintro e w9 ⟨rfl, rfl⟩
              go_wp2_with fail
              go_roundw
              case rel => exact ⟨m', u, r3, z ++ lt c, _, rfl, rfl, rfl, rfl, Lib.hid rfl, by omega, hs3, Hlt2, by rw [ByteArray.size_append]; omega, by rw [ByteArray.append_assoc, ← Hst.out]; exact Hz2.out, _, rfl⟩
              case measure => simp [intOf]
end Go.Proofs.Ytebcnamfpajneaa
namespace Go.Proofs.Ytebcnamfpajneaa
open Go.RowKit
def keyF (a : Nat) (w : List (Fin 3)) : Nat := w.foldl (fun n c => 3 * n + c.val + 1) a
theorem keyF_lt {a b : Nat} : ∀ {u v : List (Fin 3)}, u.length = v.length → a < b → keyF a u < keyF b v := by
  intro u
  induction u generalizing a b with
  | nil => intro v hl h; cases v with
    | nil => exact h
    | cons c v => simp at hl
  | cons c u ih => intro v hl h; cases v with
    | nil => simp at hl
    | cons d v =>
      show keyF (3 * a + c.val + 1) u < keyF (3 * b + d.val + 1) v
      exact ih (by simpa using hl) (by have := c.isLt; omega)
theorem key_bd (w : List (Fin 3)) : 3 ^ w.length ≤ 2 * key w + 1 ∧ 2 * key w + 3 ≤ 3 ^ (w.length + 1) := by
  refine snocCases (p := fun w => 3 ^ w.length ≤ 2 * key w + 1 ∧ 2 * key w + 3 ≤ 3 ^ (w.length + 1)) ⟨by decide, by decide⟩ (fun w c h => ?_) w
  rw [key_snoc, List.length_append, List.length_singleton, Nat.pow_succ 3 (w.length + 1)]
  have e := Nat.pow_succ 3 w.length
  have := c.isLt
  omega
theorem key_short {u v : List (Fin 3)} (h : u.length < v.length) : key u < key v := by
  have h1 := (key_bd u).2
  have h2 := (key_bd v).1
  have h3 : 3 ^ (u.length + 1) ≤ 3 ^ v.length := Nat.pow_le_pow_right (by decide) h
  omega
/-- The text of a word. -/
def tx : List (Fin 3) → ByteArray
  | [] => ByteArray.empty
  | c :: w => lt c.val ++ tx w
theorem tx_append (u v : List (Fin 3)) : tx (u ++ v) = tx u ++ tx v := by
  induction u with
  | nil => simp [tx]
  | cons c u ih => simp [tx, ih, ByteArray.append_assoc]
theorem tx_size (u : List (Fin 3)) : (tx u).size = u.length := by
  induction u with
  | nil => rfl
  | cons c u ih =>
    simp only [tx, ByteArray.size_append, ih, List.length_cons]
    have : (lt c.val).size = 1 := rfl
    omega
theorem wS_key (w : List (Fin 3)) : wS (key w) = tx w := by
  refine snocCases (p := fun w => wS (key w) = tx w) (by show wS 0 = _; rw [wS_zero]; rfl) (fun w c h => ?_) w
  rw [key_snoc, wS_succ _ _ c.isLt, h, tx_append]
  simp [tx]
theorem cnt_pos {D : DfaD} : ∀ {u : List (Fin 3)} {s : Nat}, lg (dn D) (de D) s u = true → 0 < cnt D u.length s := by
  intro u
  induction u with
  | nil => intro s h; have h' : de D s = true := h; simp [cnt, h']
  | cons c u ih =>
    intro s h
    have h1 := ih (s := dn D s c.val) h
    show 0 < cnt D u.length (dn D s 0) + cnt D u.length (dn D s 1) + cnt D u.length (dn D s 2)
    rcases (by omega : c = 0 ∨ c = 1 ∨ c = 2) with rfl | rfl | rfl
    · have h2 : 0 < cnt D u.length (dn D s 0) := h1; omega
    · have h2 : 0 < cnt D u.length (dn D s 1) := h1; omega
    · have h2 : 0 < cnt D u.length (dn D s 2) := h1; omega
/-- The word that wnS has for number 0 is an accepted one, and the least. -/
theorem wnS_least (D : DfaD) : ∀ (l s : Nat), 0 < cnt D l s → ∃ u : List (Fin 3), u.length = l ∧ lg (dn D) (de D) s u = true ∧ wnS D l s 0 = tx u ∧ ∀ (a : Nat) (v : List (Fin 3)), v.length = l → lg (dn D) (de D) s v = true → keyF a u ≤ keyF a v := by
  intro l
  induction l with
  | zero =>
    intro s h
    refine ⟨[], rfl, ?_, rfl, fun a v hv _ => ?_⟩
    · show de D s = true
      unfold cnt at h
      by_cases hd : de D s = true
      · exact hd
      · rw [if_neg hd] at h; omega
    · have := List.eq_nil_of_length_eq_zero hv; subst this; exact Nat.le_refl _
  | succ l ih =>
    intro s h
    have hc : cnt D (l + 1) s = cnt D l (dn D s 0) + cnt D l (dn D s 1) + cnt D l (dn D s 2) := rfl
    have key : ∃ c : Fin 3, wnc D l s 0 = c.val ∧ 0 < cnt D l (dn D s c.val) ∧ ∀ d : Fin 3, 0 < cnt D l (dn D s d.val) → c.val ≤ d.val := by
      have e0 : cns D l s 0 = 0 := rfl
      have e1 : cns D l s 1 = cns D l s 0 + cnt D l (dn D s 0) := rfl
      have e2 : cns D l s 2 = cns D l s 1 + cnt D l (dn D s 1) := rfl
      by_cases h0 : 0 < cnt D l (dn D s 0)
      · exact ⟨0, by unfold wnc; rw [if_pos (by omega)]; rfl, h0, fun d _ => Nat.zero_le _⟩
      · by_cases h1 : 0 < cnt D l (dn D s 1)
        · refine ⟨1, by unfold wnc; rw [if_neg (by omega), if_pos (by omega)]; rfl, h1, fun d hd => ?_⟩
          rcases (by omega : d = 0 ∨ d = 1 ∨ d = 2) with rfl | rfl | rfl
          · exact absurd hd h0
          · exact Nat.le_refl _
          · decide
        · refine ⟨2, by unfold wnc; rw [if_neg (by omega), if_neg (by omega)]; rfl, by show 0 < cnt D l (dn D s 2); omega, fun d hd => ?_⟩
          rcases (by omega : d = 0 ∨ d = 1 ∨ d = 2) with rfl | rfl | rfl
          · exact absurd hd h0
          · exact absurd hd h1
          · exact Nat.le_refl _
    obtain ⟨c, hw, hp, hm⟩ := key
    obtain ⟨u, hu1, hu2, hu3, hu4⟩ := ih _ hp
    refine ⟨c :: u, by simp [hu1], hu2, ?_, fun a v hv hl => ?_⟩
    · show lt (wnc D l s 0) ++ wnS D l (dn D s (wnc D l s 0)) (0 - cns D l s (wnc D l s 0)) = lt c.val ++ tx u
      rw [hw, Nat.zero_sub, hu3]
    · cases v with
      | nil => simp at hv
      | cons d v =>
        have hv' : v.length = l := by simpa using hv
        have hd := hm d (by have := cnt_pos (D := D) (u := v) (s := dn D s d.val) hl; rwa [hv'] at this)
        show keyF (3 * a + c.val + 1) u ≤ keyF (3 * a + d.val + 1) v
        rcases Nat.lt_or_ge c.val d.val with h1 | h1
        · exact Nat.le_of_lt (keyF_lt (by rw [hu1, hv']) (by omega))
        · have e : d.val = c.val := by omega
          have hl2 : lg (dn D) (de D) (dn D s d.val) v = true := hl
          rw [e] at hl2 ⊢
          exact hu4 _ v hv' hl2
theorem cnt_word {D : DfaD} {l s : Nat} (h : 0 < cnt D l s) : ∃ u : List (Fin 3), u.length = l ∧ lg (dn D) (de D) s u = true := let ⟨u, h1, h2, _⟩ := wnS_least D l s h; ⟨u, h1, h2⟩
theorem acc_zero {D : DfaD} {l : Nat} (h : ∀ j, j < l → cnt D j 0 = 0) : acc D l = 0 := by
  induction l with
  | zero => rfl
  | succ l ih =>
    show acc D l + cnt D l 0 = 0
    rw [ih fun j hj => h j (by omega), h l (by omega)]
/-- Word number 0 is the first word, if that is not too long. -/
theorem first_number (D : DfaD) (h : (foV D).size ≤ 30) : wnV D 0 = foV D ∧ wnB D 0 = foB D := by
  by_cases hD : okD D
  · obtain ⟨e1, e2⟩ := fo_yes hD
    rw [e1] at h
    rw [e1, e2]
    by_cases hw : hasW (lgD D)
    · obtain ⟨w, hw'⟩ := hw
      have hp : lgD D (wd (key w)) = true := by rw [wd_key]; exact hw'
      obtain ⟨_, hn, _⟩ := lst_spec (p := fun n => lgD D (wd n) = true) hp
      have hmin : ∀ v, lgD D v = true → lst (fun n => lgD D (wd n) = true) ≤ key v := fun v hv => (lst_spec (p := fun n => lgD D (wd n) = true) (n := key v) (by show lgD D (wd (key v)) = true; rw [wd_key]; exact hv)).1
      have ef : fstW (lgD D) = wS (lst (fun n => lgD D (wd n) = true)) := if_pos ⟨w, hw'⟩
      have eb : fwB (lgD D) = true := pb_true ⟨w, hw'⟩
      rw [ef] at h ⊢
      rw [eb]
      generalize lst (fun n => lgD D (wd n) = true) = n at *
      have hk : key (wd n) = n := key_wd n
      have ht : wS n = tx (wd n) := by rw [← hk, wS_key, hk]
      rw [ht, tx_size] at h
      have hl := cnt_pos (D := D) (u := wd n) (s := 0) hn
      have hz : ∀ j, j < (wd n).length → cnt D j 0 = 0 := fun j hj => by
        rcases Nat.eq_zero_or_pos (cnt D j 0) with h0 | h0
        · exact h0
        · obtain ⟨v, hv1, hv2⟩ := cnt_word h0
          have h3 := key_short (u := v) (v := wd n) (by rw [hv1]; exact hj)
          have h4 := hmin v hv2
          omega
      have hy := wn_yes (n := 0) (l := (wd n).length) (r := 0) hD h (by rw [acc_zero hz]) hl
      obtain ⟨u, hu1, hu2, hu3, hu4⟩ := wnS_least D _ 0 hl
      have h5 := hu4 0 (wd n) rfl hn
      have h6 := hmin u hu2
      have h7 : key u ≤ key (wd n) := h5
      have h8 : key u = n := by omega
      have h9 : u = wd n := by rw [← h8, wd_key]
      refine ⟨?_, hy.2⟩
      rw [show (0 : Int) = ((0 : Nat) : Int) from rfl, hy.1, hu3, h9, ht]
    · have h0 : acc D 31 = 0 := acc_zero fun j _ => by
        rcases Nat.eq_zero_or_pos (cnt D j 0) with h0 | h0
        · exact h0
        · obtain ⟨v, _, hv⟩ := cnt_word h0
          exact absurd ⟨v, hv⟩ hw
      have hn := wn_no (D := D) (i := 0) (fun ⟨_, _, h3⟩ => by rw [h0] at h3; omega)
      rw [fstW_no hw, hn.1, hn.2]
      exact ⟨rfl, (pb_false hw).symm⟩
  · obtain ⟨e1, e2⟩ := fo_no hD
    have hn := wn_no (D := D) (i := 0) (fun h => hD h.1)
    rw [e1, e2]
    exact hn
end Go.Proofs.Ytebcnamfpajneaa
