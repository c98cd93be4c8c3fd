/- The word with a number: the program's and the reference's. -/
import Derived.Test.YthdbgpdidolmaaaWnp
import Derived.Test.YthdbgpdidolmaaaCnw
import Derived.Test.YthdbgpdidolmaaaFwi
import Derived.Laws.IdiomStrings
namespace Go.Proofs.Ythdbgpdidolmaaa
open Go.RowKit
set_option maxRecDepth 100000
variable {S T : Nat → Prop}
theorem byteL (w : World) (c : Nat) (hc : c < 3) :
    (convert 90 9 (.slice (some ⟨w.heap.size, 0, none⟩) 1 1)).run Try.prog (w.alloc (.cells #[.int .u8 (97 + (c : Int))] 5)) = .ok (.string (lt c)) (w.alloc (.cells #[.int .u8 (97 + (c : Int))] 5)) := by
  have hz : (97 + (c : Int)) = (UInt8.ofNat (97 + c)).toNat := by rw [UInt8.toNat_ofNat']; omega
  rw [hz]
  refine run_convert_bytes_back (w.alloc (.cells #[.int .u8 (UInt8.ofNat (97 + c)).toNat] 5)) 90 9 5 ⟨w.heap.size, 0, none⟩ 1 [UInt8.ofNat (97 + c)] Try.underlying90 Try.underlying5 Try.underlying9 (fun j hj => ?_)
  have : j = 0 := by simpa using hj
  subst this
  simp [Addr.add, World.cell?_alloc_mark]
set_option maxHeartbeats 4000000 in
theorem WordNumber_c (vn ve : Value) (D : DfaD) (i : Int) (w : World) (h : DfaR S w vn ve D) (hi : -9223372036854775808 ≤ i ∧ i ≤ 9223372036854775807) :
    Calls Try.prog 28 #[.agg #[vn, ve], .int .i64 i] w (RO w (.tuple #[.string (wnV D i), .bool (wnB D i)])) := by
  obtain ⟨a, c, b, d, rfl, rfl, hn, hm⟩ := (h).shapes
  obtain ⟨W, hW⟩ : ∃ W, W = w.alloc (.cells #[.slice a D.1.length c, .slice b D.2.length d] 36) := ⟨_, rfl⟩
  have Hb0 : Hid (Below w.heap.size w W) := by rw [hW]; exact (Below.refl _ _).alloc (Nat.le_refl _) _
  have c0 : W.cell? ⟨w.heap.size, 0, none⟩ = some (.slice a D.1.length c) := by rw [hW, World.cell?_alloc_mark]; rfl
  have c1 : W.cell? ⟨w.heap.size, 1, none⟩ = some (.slice b D.2.length d) := by rw [hW, World.cell?_alloc_mark]; rfl
  have K0 : Hid (W.heap[w.heap.size]? = some (.cells #[.slice a D.1.length c, .slice b D.2.length d] 36 (0, 0))) := by rw [hW]; exact blkNew _ _ rfl
  have Hz : Hid (W.heap.size = w.heap.size + 1) := by rw [hW]; simp [Hid]
  have H := Lib.hid ((h).stay (kpB Hb0.out)); clear h
  have HW := Lib.hid hW; clear hW
  have hbs := Hb0.out.size
  rw [HW.out] at c0 c1
  go_enter Try.func28, Try.ntmps28
  go_wp2_with fail
  clear c0 c1
  rw [← HW.out]
  refine (DfaValid_c _ _ D W H.out).mono ?_
  rintro e w1 ⟨b1, rfl, hb1, hv1⟩
  have hB := Hb0.out.trans (hb1.mono hbs)
  obtain ⟨d0, d1, _, _⟩ := blk2 (blkBel hb1 K0.out)
  cases b1
  · have hp := Lib.hid (hbF hv1); clear hv1
    have Hv := Lib.hid (wn_no (D := D) (i := i) (fun h => hp.out h.1))
    go_wp2
    go_ret2
    exact ⟨by rw [Hv.out.1, Hv.out.2]; rfl, hB⟩
  have HD := Lib.hid (hbT hv1); clear hv1
  by_cases hi0 : i < 0
  · have Hv := Lib.hid (wn_no (D := D) (i := i) (fun h => by have := h.2.1; omega))
    go_wp2
    go_ret2
    exact ⟨by rw [Hv.out.1, Hv.out.2]; rfl, hB⟩
  have hi1 : 0 ≤ i := by omega
  obtain ⟨n, rfl⟩ := Int.eq_ofNat_of_zero_le hi1
  have hn63 : n ≤ 9223372036854775807 := by omega
  clear hi hi1
  have h0 : 0 < D.1.length := HD.out.1.1
  have hn40 : D.1.length ≤ 40 := HD.out.1.2
  go_wp2_with fail
  refine (counts_c _ _ D _ (H.out.stay (kpB hb1)) HD.out).mono ?_
  rintro e w3 ⟨v, rfl, hb3, hv⟩
  obtain ⟨g, rfl, hg⟩ := hv.out
  have HG := Lib.hid hg
  have hB3 := hb1.trans (hb3.mono hb1.size)
  clear hg hv hb3 hb1 hB d0 d1
  go_wp2_with ((refine wpList_store_mid rfl 91 (.tmp 6) (.tmp 20) rfl w3.heap.size 0 _ rfl rfl (slots_there _ _ _) (slots_info _ _) (slots_one _ _) ?_); change wpList _ _ _ _ _ (slotsW w3 D.1.length g); obtain ⟨W5, hW5⟩ : ∃ W5, W5 = slotsW w3 D.1.length g := ⟨_, rfl⟩; rw [← hW5]; have HW5 := Lib.hid hW5; clear hW5)
  have hb5 : Below w3.heap.size w3 W5 := by rw [HW5.out]; exact slots_below _ _ _
  have hB5 := hB3.trans (hb5.mono hB3.size)
  have HC : Hid (∀ i, i < 31 → W5.cell? ⟨w3.heap.size, i, none⟩ = some (.slice (some ⟨g i, 0, none⟩) D.1.length D.1.length)) := fun i hi => by rw [HW5.out]; exact slots_cell _ _ _ hi
  have HG5 : Hid (∀ i, i < 31 → RowI W5 (g i) (cntL D i)) := fun i hi => (HG.out i hi).2.stay hb5
  have H5 := Lib.hid (H.out.stay (kpB hB5))
  have K5 := Lib.hid (blkBel hB5 K0.out)
  have hBf := Lib.hid (Hb0.out.trans (hB5.mono hbs))
  generalize hB0 : w3.heap.size = B at *
  have HB0 := Lib.hid hB0
  clear HG hb5 HW5 hB0 hB3 hB5
  go_loop [1, 7] (fun v1 v7 => ∃ l r : Nat, l ≤ 30 ∧ v7 = .int .i64 l ∧ v1 = .int .i64 r ∧ Hid (r + acc D l = n)) (fun _ v7 => 31 - (intOf v7).toNat)
  case atStart => exact ⟨0, n, by omega, rfl, rfl, rfl⟩
  case round =>
    obtain ⟨l, r, hl, rfl, rfl, Hr⟩ := hrel
    have hr63 : r ≤ 9223372036854775807 := by have := Hr.out; omega
    have hl31 : (l : Int) < 31 := by omega
    have hcb := cnt_bd D hl 0
    have hc1 := HC.out l (by omega)
    have hc := (HG5.out l (by omega)).cell (i := 0) (by rw [cntL_len]; exact h0)
    rw [cntL_get D l h0] at hc
    have hacc : Hid (acc D (l + 1) = acc D l + cnt D l 0) := rfl
    by_cases hge : cnt D l 0 ≤ r
    · have hgeI : ((cnt D l 0 : Nat) : Int) ≤ (r : Int) := by omega
      obtain ⟨z, hz⟩ : ∃ z, z = cnt D l 0 := ⟨_, rfl⟩
      rw [← hz] at hc hcb hge hgeI hacc
      have Hz := Lib.hid hz
      clear hz
      generalize g l = G at *
      by_cases hl30 : l = 30
      · have Hv := Lib.hid (wn_no (D := D) (i := (n : Int)) (fun h => by
          have h1 := h.2.2
          rw [Int.toNat_natCast] at h1
          have h2 := Hr.out
          have h3 : acc D 31 = acc D 30 + z := by have := hacc.out; rw [hl30] at this; exact this
          rw [hl30] at h2
          omega))
        have hl30I : (30 : Int) < (l : Int) + 1 := by omega
        clear hl30
        go_wp2
        go_ret2
        exact ⟨by rw [Hv.out.1, Hv.out.2]; rfl, hBf.out⟩
      · have hl30I : ¬ ((30 : Int) < (l : Int) + 1) := by omega
        have Hn : Hid (r - z + acc D (l + 1) = n) := by have := Hr.out; have := hacc.out; unfold Hid; omega
        clear hl30
        go_wp2
        go_round
        case rel => exact ⟨l + 1, r - z, by omega, by go_num, by rw [show ((r - z : Nat) : Int) = (r : Int) - (z : Int) by omega], Hn⟩
        case measure => simp [intOf]; omega
    · have hlt : r < cnt D l 0 := by omega
      have hgeI : ¬ (((cnt D l 0 : Nat) : Int) ≤ (r : Int)) := by omega
      have Hv := Lib.hid (wn_yes HD.out hl Hr.out hlt)
      have Hlt := Lib.hid hlt
      obtain ⟨z, hz⟩ : ∃ z, z = cnt D l 0 := ⟨_, rfl⟩
      rw [← hz] at hc hcb hge hgeI hlt
      have Hz := Lib.hid hz
      clear hz hacc
      obtain ⟨G, hG⟩ : ∃ G, G = g l := ⟨_, rfl⟩
      rw [← hG] at hc1 hc
      clear hG
      go_wp2_with fail
      clear hc1 hc
      have hlI : ((l : Nat) : Int) ≤ 30 := by omega
      go_loopw [1, 8, 9, 10] (fun v1 v8 v9 v10 wr => ∃ (m st r2 : Nat) (z : ByteArray) (j : Int), v1 = .int .i64 r2 ∧ v8 = .string z ∧ v9 = .int .i64 st ∧ v10 = .int .i64 j ∧ Hid (j = (m : Int) - 1) ∧ m ≤ 30 ∧ st < D.1.length ∧ Hid (r2 < cnt D m st) ∧ z.size + m ≤ 30 ∧
        Hid (z ++ wnS D m st r2 = wnS D l 0 r) ∧ ∃ q, wr = W5.drewN q) (fun _ _ _ v10 _ => (intOf v10 + 1).toNat)
      case atStart => exact ⟨l, 0, r, ⟨#[]⟩, _, rfl, rfl, rfl, rfl, rfl, hl, h0, Hlt, by show 0 + l ≤ 30; omega, ByteArray.empty_append, 0, rfl⟩
      case round =>
        obtain ⟨m, st, r2, z, j, rfl, rfl, rfl, rfl, Hj, hm30, hst, Hr2, hzs, Hz2, nq, rfl⟩ := hrel
        rcases Nat.eq_zero_or_pos m with hm0 | hm0
        · subst hm0
          have hj : j < 0 := by have := Hj.out; omega
          have hzf : Hid (z = wnS D l 0 r) := by rw [← Hz2.out]; exact ByteArray.append_empty.symm
          have hBf2 := Lib.hid (belDrewN hBf.out nq)
          clear Hz2 Hj
          go_wp2
          go_ret2
          refine ⟨?_, hBf2.out⟩
          rw [Hv.out.1, Hv.out.2, ← hzf.out]
          rfl
        · obtain ⟨m', rfl⟩ : ∃ m', m = m' + 1 := ⟨m - 1, by omega⟩
          obtain rfl : j = (m' : Int) := by have := Hj.out; omega
          clear Hj
          have hr263 : (r2 : Int) ≤ 205891132094649 := by have := cnt_bd D hm30 st; have := Hr2.out; omega
          have hstI : (st : Int) < (D.1.length : Int) := by omega
          have hm31 : (m' : Int) < 31 := by omega
          obtain ⟨bn, on, br, or_, cr, e1, hrW, _, hcW⟩ := H5.out.row HD.out hst
          subst e1
          have HcW := Lib.hid hcW
          have hcm := HC.out m' (by omega)
          obtain ⟨gm, hgm⟩ : ∃ gm, gm = g m' := ⟨_, rfl⟩
          have HGm := Lib.hid (HG5.out m' (by omega))
          rw [← hgm] at hcm HGm
          obtain ⟨k0, k1, _, _⟩ := blk2 K5.out
          clear hcW hgm
          go_wp2_with fail
          go_loopw [1, 11] (fun v1 v11 wr => ∃ (c r3 : Nat), c ≤ 2 ∧ v1 = .int .i64 r3 ∧ v11 = .int .i64 c ∧ Hid (r3 + cns D m' st c = r2) ∧ ∃ q, wr = W5.drewN q) (fun _ v11 _ => 3 - (intOf v11).toNat)
          case atStart => exact ⟨0, r2, by omega, rfl, rfl, rfl, nq, rfl⟩
          case round =>
            obtain ⟨c, r3, hc, rfl, rfl, Hr3, nq2, rfl⟩ := hrel
            have hr3I : (r3 : Int) ≤ 205891132094649 := by have := Hr3.out; omega
            have hs2 := HcW.out c (by omega)
            have hs3 := dn_lt HD.out hst (show c < 3 by omega)
            have hcg := HGm.out.cell (i := dn D st c) (by rw [cntL_len]; exact hs3)
            rw [cntL_get D m' hs3] at hcg
            have hcb := cnt_bd D (show m' ≤ 30 by omega) (dn D st c)
            have hcI : (c : Int) < 3 := by omega
            have Hns : Hid (cns D m' st (c + 1) = cns D m' st c + cnt D m' (dn D st c)) := rfl
            have Hc3 : Hid (cns D m' st 3 = cnt D (m' + 1) st) := cns_three D m' st
            by_cases hge : cnt D m' (dn D st c) ≤ r3
            · have hc2 : c + 1 ≤ 2 := by
                rcases Nat.lt_or_ge c 2 with h1 | h1
                · omega
                · exfalso
                  obtain rfl : c = 2 := by omega
                  have e1 := Hr3.out; have e2 := Hns.out; have e3 := Hc3.out; have e4 := Hr2.out
                  have e5 : cns D m' st (2 + 1) = cns D m' st 3 := rfl
                  omega
              have Hn : Hid (r3 - cnt D m' (dn D st c) + cns D m' st (c + 1) = r2) := by have := Hr3.out; have := Hns.out; unfold Hid; omega
              obtain ⟨y, hy⟩ : ∃ y, y = cnt D m' (dn D st c) := ⟨_, rfl⟩
              obtain ⟨u, hu⟩ : ∃ u, u = dn D st c := ⟨_, rfl⟩
              rw [← hy] at hcb hge hcg Hn
              rw [← hu] at hcg hs2 hs3
              have huI : (u : Int) < (D.1.length : Int) := by omega
              have hgeI : (y : Int) ≤ (r3 : Int) := by omega
              clear hy hu Hns Hc3
              go_wp2_with fail
              go_quiet (fail)
              go_wp2_with fail
              go_quiet (fail)
              go_wp2
              go_roundw
              case rel => exact ⟨c + 1, r3 - y, by omega, by rw [show ((r3 - y : Nat) : Int) = (r3 : Int) - (y : Int) by omega], by go_num, Hn, _, rfl⟩
              case measure => simp [intOf]; omega
            · have hlt2 : r3 < cnt D m' (dn D st c) := by omega
              have Hst := Lib.hid (wnS_step (D := D) (l := m') (s := st) (show c < 3 by omega) Hr3.out hlt2)
              have Hlt2 := Lib.hid hlt2
              obtain ⟨y, hy⟩ : ∃ y, y = cnt D m' (dn D st c) := ⟨_, rfl⟩
              obtain ⟨u, hu⟩ : ∃ u, u = dn D st c := ⟨_, rfl⟩
              rw [← hy] at hcb hge hcg hlt2
              rw [← hu] at hcg hs2 hs3 Hst Hlt2
              have huI : (u : Int) < (D.1.length : Int) := by omega
              have hgeI : ¬ ((y : Int) ≤ (r3 : Int)) := by omega
              have hlts : (lt c).size ≤ 1 := Nat.le_refl _
              have hcc : ¬ (9223372036854775807 < z.size + (lt c).size) := by omega
              clear hy hu Hns Hc3
              go_wp2_with fail
              go_quiet (fail)
              go_wp2_with fail
              refine (letterText_c c _ (by omega)).mono ?_
              rintro e w9 ⟨rfl, rfl⟩
              go_wp2_with fail
              go_roundw
              case rel => exact ⟨m', u, r3, z ++ lt c, _, rfl, rfl, rfl, rfl, Lib.hid rfl, by omega, hs3, Hlt2, by rw [ByteArray.size_append]; omega, by rw [ByteArray.append_assoc, ← Hst.out]; exact Hz2.out, _, rfl⟩
              case measure => simp [intOf]
set_option maxHeartbeats 4000000 in
theorem sWordNumber_c (vn ve : Value) (D : DfaD) (i : Int) (w : World) (h : DfaR S w vn ve D) (hi : -9223372036854775808 ≤ i ∧ i ≤ 9223372036854775807) :
    Calls Try.prog 27 #[.agg #[vn, ve], .int .i64 i] w (RO w (.tuple #[.string (wnV D i), .bool (wnB D i)])) := by
  obtain ⟨a, c, b, d, rfl, rfl, hn, hm⟩ := (h).shapes
  obtain ⟨W, hW⟩ : ∃ W, W = w.alloc (.cells #[.slice a D.1.length c, .slice b D.2.length d] 36) := ⟨_, rfl⟩
  have Hb0 : Hid (Below w.heap.size w W) := by rw [hW]; exact (Below.refl _ _).alloc (Nat.le_refl _) _
  have c0 : W.cell? ⟨w.heap.size, 0, none⟩ = some (.slice a D.1.length c) := by rw [hW, World.cell?_alloc_mark]; rfl
  have c1 : W.cell? ⟨w.heap.size, 1, none⟩ = some (.slice b D.2.length d) := by rw [hW, World.cell?_alloc_mark]; rfl
  have K0 : Hid (W.heap[w.heap.size]? = some (.cells #[.slice a D.1.length c, .slice b D.2.length d] 36 (0, 0))) := by rw [hW]; exact blkNew _ _ rfl
  have Hz : Hid (W.heap.size = w.heap.size + 1) := by rw [hW]; simp [Hid]
  have H := Lib.hid ((h).stay (kpB Hb0.out)); clear h
  have HW := Lib.hid hW; clear hW
  have hbs := Hb0.out.size
  rw [HW.out] at c0 c1
  go_enter Try.func27, Try.ntmps27
  go_wp2_with fail
  clear c0 c1
  rw [← HW.out]
  refine (sDfaValid_c _ _ D W H.out).mono ?_
  rintro e w1 ⟨b1, rfl, hb1, hv1⟩
  have hB := Hb0.out.trans (hb1.mono hbs)
  obtain ⟨d0, d1, _, _⟩ := blk2 (blkBel hb1 K0.out)
  cases b1
  · have hp := Lib.hid (hbF hv1); clear hv1
    have Hv := Lib.hid (wn_no (D := D) (i := i) (fun h => hp.out h.1))
    go_wp2
    go_ret2
    exact ⟨by rw [Hv.out.1, Hv.out.2]; rfl, hB⟩
  have HD := Lib.hid (hbT hv1); clear hv1
  by_cases hi0 : i < 0
  · have Hv := Lib.hid (wn_no (D := D) (i := i) (fun h => by have := h.2.1; omega))
    go_wp2
    go_ret2
    exact ⟨by rw [Hv.out.1, Hv.out.2]; rfl, hB⟩
  have hi1 : 0 ≤ i := by omega
  obtain ⟨n, rfl⟩ := Int.eq_ofNat_of_zero_le hi1
  have hn63 : n ≤ 9223372036854775807 := by omega
  clear hi hi1
  have h0 : 0 < D.1.length := HD.out.1.1
  have hn40 : D.1.length ≤ 40 := HD.out.1.2
  go_wp2_with fail
  clear d0 d1
  go_loopw [1, 6] (fun v1 v6 wr => ∃ l r : Nat, l ≤ 31 ∧ v6 = .int .i64 l ∧ v1 = .int .i64 r ∧ Hid (r + acc D l = n) ∧ Below W.heap.size W wr) (fun _ v6 _ => 31 - (intOf v6).toNat)
  case atStart => exact ⟨0, n, by omega, rfl, rfl, rfl, hb1⟩
  case round =>
    clear hb1 hB
    obtain ⟨l, r, hl, rfl, rfl, Hr, hb⟩ := hrel
    have hr63 : r ≤ 9223372036854775807 := by have := Hr.out; omega
    obtain ⟨d0, d1, _, _⟩ := blk2 (blkBel hb K0.out)
    by_cases hl30 : l ≤ 30
    · have hl30I : (l : Int) ≤ 30 := by omega
      go_wp2_with fail
      clear d0 d1
      refine (l17Counts_c _ _ D l _ (H.out.stay (kpB hb)) HD.out hl30).mono ?_
      rintro e w3 ⟨v, rfl, hb3, hv⟩
      obtain ⟨G, rfl, _, hg⟩ := hv.out
      have hB3 := hb.trans (hb3.mono hb.size)
      have hcb := cnt_bd D hl30 0
      have hc := hg.cell (i := 0) (by rw [cntL_len]; exact h0)
      rw [cntL_get D l h0] at hc
      have hacc : Hid (acc D (l + 1) = acc D l + cnt D l 0) := rfl
      obtain ⟨d0, d1, _, _⟩ := blk2 (blkBel hB3 K0.out)
      clear hg hv hb3 hb
      by_cases hge : cnt D l 0 ≤ r
      · have hgeI : ((cnt D l 0 : Nat) : Int) ≤ (r : Int) := by omega
        obtain ⟨z, hz⟩ : ∃ z, z = cnt D l 0 := ⟨_, rfl⟩
        rw [← hz] at hc hcb hge hgeI hacc
        have Hn : Hid (r - z + acc D (l + 1) = n) := by have := Hr.out; have := hacc.out; unfold Hid; omega
        clear hz
        go_wp2
        go_roundw
        case rel => exact ⟨l + 1, r - z, by omega, by go_num, by rw [show ((r - z : Nat) : Int) = (r : Int) - (z : Int) by omega], Hn, hB3⟩
        case measure => simp [intOf]; omega
      · have hlt : r < cnt D l 0 := by omega
        have Hv := Lib.hid (wn_yes HD.out hl30 Hr.out hlt)
        have Hlt := Lib.hid hlt
        have hgeI : ¬ (((cnt D l 0 : Nat) : Int) ≤ (r : Int)) := by omega
        obtain ⟨z, hz⟩ : ∃ z, z = cnt D l 0 := ⟨_, rfl⟩
        rw [← hz] at hc hcb hge hgeI hlt
        have Hz := Lib.hid hz
        clear hz hacc
        go_wp2_with fail
        clear hc d0 d1
        go_loopw [1, 8, 9, 10] (fun v1 v8 v9 v10 wr => ∃ (k st r2 : Nat) (z : ByteArray), v1 = .int .i64 r2 ∧ v8 = .string z ∧ v9 = .int .i64 st ∧ v10 = .int .i64 k ∧ k ≤ l ∧ st < D.1.length ∧ Hid (r2 < cnt D (l - k) st) ∧ z.size ≤ k ∧
          Hid (z ++ wnS D (l - k) st r2 = wnS D l 0 r) ∧ Below W.heap.size W wr) (fun _ _ _ v10 _ => l - (intOf v10).toNat)
        case atStart => exact ⟨0, 0, r, ⟨#[]⟩, rfl, rfl, rfl, rfl, by omega, h0, Hlt, Nat.le_refl _, ByteArray.empty_append, hB3⟩
        case round =>
          clear hB3
          obtain ⟨k, st, r2, z, rfl, rfl, rfl, rfl, hkl, hst, Hr2, hzs, Hz2, hb⟩ := hrel
          obtain ⟨d0, d1, _, _⟩ := blk2 (blkBel hb K0.out)
          by_cases hlt2 : k < l
          · obtain ⟨m', hm'⟩ : ∃ m', m' = l - k - 1 := ⟨_, rfl⟩
            have hlk : l - k = m' + 1 := by omega
            rw [hlk] at Hr2 Hz2
            have Hlk : Hid (l - (k + 1) = m') := by unfold Hid; omega
            have hm30 : m' ≤ 30 := by omega
            have hmI : (l : Int) - (k : Int) - 1 = (m' : Int) := by omega
            have hkI : (k : Int) < (l : Int) := by omega
            have hr263 : (r2 : Int) ≤ 205891132094649 := by have := cnt_bd D (show m' + 1 ≤ 30 by omega) st; have := Hr2.out; omega
            have hstI : (st : Int) < (D.1.length : Int) := by omega
            have Hm := Lib.hid hm'
            clear hm' hlk
            go_wp2_with fail
            clear d0 d1
            refine (l17Counts_c _ _ D m' _ (H.out.stay (kpB hb)) HD.out hm30).mono ?_
            rintro e w4 ⟨v, rfl, hb4, hv⟩
            obtain ⟨gm, rfl, _, hg⟩ := hv.out
            have HGm := Lib.hid hg
            have hB4 := Lib.hid (hb.trans (hb4.mono hb.size))
            obtain ⟨bn, on, br, or_, cr, e1, hrW, _, hcW⟩ := (H.out.stay (kpB hB4.out)).row HD.out hst
            subst e1
            have HcW := Lib.hid hcW
            obtain ⟨k0, k1, _, _⟩ := blk2 (blkBel hB4.out K0.out)
            clear hcW hg hv hb4 hb
            go_wp2_with fail
            go_loop [1, 12] (fun v1 v12 => ∃ (c r3 : Nat), c ≤ 2 ∧ v1 = .int .i64 r3 ∧ v12 = .int .i64 c ∧ Hid (r3 + cns D m' st c = r2)) (fun _ v12 => 3 - (intOf v12).toNat)
            case atStart => exact ⟨0, r2, by omega, rfl, rfl, rfl⟩
            case round =>
              obtain ⟨c, r3, hc, rfl, rfl, Hr3⟩ := hrel
              have hr3I : (r3 : Int) ≤ 205891132094649 := by have := Hr3.out; omega
              have hs2 := HcW.out c (by omega)
              have hs3 := dn_lt HD.out hst (show c < 3 by omega)
              have hcg := HGm.out.cell (i := dn D st c) (by rw [cntL_len]; exact hs3)
              rw [cntL_get D m' hs3] at hcg
              have hcb := cnt_bd D (show m' ≤ 30 by omega) (dn D st c)
              have hcI : (c : Int) < 3 := by omega
              have Hns : Hid (cns D m' st (c + 1) = cns D m' st c + cnt D m' (dn D st c)) := rfl
              have Hc3 : Hid (cns D m' st 3 = cnt D (m' + 1) st) := cns_three D m' st
              by_cases hge : cnt D m' (dn D st c) ≤ r3
              · have hc2 : c + 1 ≤ 2 := by
                  rcases Nat.lt_or_ge c 2 with h1 | h1
                  · omega
                  · exfalso
                    obtain rfl : c = 2 := by omega
                    have e1 := Hr3.out; have e2 := Hns.out; have e3 := Hc3.out; have e4 := Hr2.out
                    have e5 : cns D m' st (2 + 1) = cns D m' st 3 := rfl
                    omega
                have Hn : Hid (r3 - cnt D m' (dn D st c) + cns D m' st (c + 1) = r2) := by have := Hr3.out; have := Hns.out; unfold Hid; omega
                obtain ⟨y, hy⟩ : ∃ y, y = cnt D m' (dn D st c) := ⟨_, rfl⟩
                obtain ⟨u, hu⟩ : ∃ u, u = dn D st c := ⟨_, rfl⟩
                rw [← hy] at hcb hge hcg Hn
                rw [← hu] at hcg hs2 hs3
                have huI : (u : Int) < (D.1.length : Int) := by omega
                have hgeI : (y : Int) ≤ (r3 : Int) := by omega
                clear hy hu Hns Hc3
                go_wp2
                go_round
                case rel => exact ⟨c + 1, r3 - y, by omega, by rw [show ((r3 - y : Nat) : Int) = (r3 : Int) - (y : Int) by omega], by go_num, Hn⟩
                case measure => simp [intOf]; omega
              · have hlt2 : r3 < cnt D m' (dn D st c) := by omega
                have Hst := Lib.hid (wnS_step (D := D) (l := m') (s := st) (show c < 3 by omega) Hr3.out hlt2)
                have Hlt2 := Lib.hid hlt2
                obtain ⟨y, hy⟩ : ∃ y, y = cnt D m' (dn D st c) := ⟨_, rfl⟩
                obtain ⟨u, hu⟩ : ∃ u, u = dn D st c := ⟨_, rfl⟩
                rw [← hy] at hcb hge hcg hlt2
                rw [← hu] at hcg hs2 hs3 Hst Hlt2
                have huI : (u : Int) < (D.1.length : Int) := by omega
                have hgeI : ¬ ((y : Int) ≤ (r3 : Int)) := by omega
                have hlts : (lt c).size ≤ 1 := Nat.le_refl _
                have hcc : ¬ (9223372036854775807 < z.size + (lt c).size) := by omega
                clear hy hu Hns Hc3
                have hcv : (convert 90 9 (.slice (some ⟨w4.heap.size, 0, none⟩) 1 1)).run Try.prog (w4.alloc (.cells #[.int .u8 (97 + (c : Int))] 5)) = .ok (.string (lt c)) (w4.alloc (.cells #[.int .u8 (97 + (c : Int))] 5)) := byteL w4 c (by omega)
                have hBq := hB4
                have hbl0 : w.heap.size < w4.heap.size := World.block_lt_of_cell? _ _ k0
                have hbl1 : bn < w4.heap.size := World.block_lt_of_cell? _ _ hrW
                have hbl2 : br < w4.heap.size := World.block_lt_of_cell? _ _ hs2
                go_wp2_with fail
                go_roundw
                case rel => exact ⟨k + 1, u, r3, z ++ lt c, rfl, rfl, rfl, by go_num, by omega, hs3, by rw [Hlk.out]; exact Hlt2, by rw [ByteArray.size_append]; omega, by rw [ByteArray.append_assoc, Hlk.out, ← Hst.out]; exact Hz2.out, hBq.out.alloc hBq.out.size _⟩
                case measure => simp [intOf]; omega
          · obtain rfl : k = l := by omega
            have hnk : ¬ ((k : Int) < (k : Int)) := by omega
            have hzf : Hid (z = wnS D k 0 r) := by
              have := Hz2.out
              rw [Nat.sub_self] at this
              rw [← this]; exact ByteArray.append_empty.symm
            have hBf2 := Lib.hid (Hb0.out.trans (hb.mono hbs))
            clear Hz2 hb
            go_wp2
            go_ret2
            refine ⟨?_, hBf2.out⟩
            rw [Hv.out.1, Hv.out.2, ← hzf.out]
            rfl
    · obtain rfl : l = 31 := by omega
      have hl30I : ¬ (((31 : Nat) : Int) ≤ 30) := by omega
      have Hv := Lib.hid (wn_no (D := D) (i := (n : Int)) (fun h => by
        have h1 := h.2.2
        rw [Int.toNat_natCast] at h1
        have h2 := Hr.out
        omega))
      have hBf2 := Lib.hid (Hb0.out.trans (hb.mono hbs))
      clear hb
      go_wp2
      go_ret2
      exact ⟨by rw [Hv.out.1, Hv.out.2]; rfl, hBf2.out⟩
end Go.Proofs.Ythdbgpdidolmaaa
