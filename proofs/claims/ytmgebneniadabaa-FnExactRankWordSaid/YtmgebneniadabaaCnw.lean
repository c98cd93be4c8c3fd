/- Counting words: CountWords, RankWord, WordNumber; the program's and the reference's answers. No condition. -/
import Derived.Test.YtmgebneniadabaaCni
import Derived.Test.YtmgebneniadabaaTxt
namespace Go.Proofs.Ytmgebneniadabaa
open Go.RowKit
set_option maxRecDepth 100000
variable {S : Nat → Prop}

theorem index31 (n : Nat) (g : Nat → Nat) (l : Nat) (hl : l < 31) (w : World) : (Instr.index 86 (.agg (cslots n g 31).toArray) (.int .i64 l)).run Try.prog w = .ok (.slice (some ⟨g l, 0, none⟩) n n) w := by
  have hlen := cslots_len n g 31
  have hc : (cslots n g 31).toArray[l]? = some (.slice (some ⟨g l, 0, none⟩) n n) := by
    rw [List.getElem?_toArray, List.getElem?_eq_getElem (by omega), cslots_get hl hl]
  rw [List.getElem?_toArray] at hc
  simp [Instr.index, run_underlying Try.underlying86, asIntOf, go_sem, Go.part]
  rw [if_pos hl, hc]
  rfl
/-- The call answers v; new memory at most. -/
def RX (w : World) (v : Value) (e : Ending) (w' : World) : Prop := e = .returned v ∧ Below w.heap.size w w'
open Classical in
/-- The answer of CountWords. -/
noncomputable def cwv (D : DfaD) (l : Int) : Int := if okD D ∧ 0 ≤ l ∧ l ≤ 30 then ((cnt D l.toNat 0 : Nat) : Int) else -1
theorem cwv_yes {D : DfaD} {l : Int} (h1 : okD D) (h2 : 0 ≤ l ∧ l ≤ 30) : cwv D l = ((cnt D l.toNat 0 : Nat) : Int) := by unfold cwv; rw [if_pos ⟨h1, h2⟩]
theorem cwv_no1 {D : DfaD} {l : Int} (h : ¬ okD D) : cwv D l = -1 := by unfold cwv; rw [if_neg fun hh => h hh.1]
theorem cwv_no2 {D : DfaD} {l : Int} (h : ¬ (0 ≤ l ∧ l ≤ 30)) : cwv D l = -1 := by unfold cwv; rw [if_neg fun hh => h hh.2]
/-- How many words are shorter. -/
def rkA (D : DfaD) : Nat → Nat
  | 0 => 0
  | k + 1 => rkA D k + cnt D k 0
theorem rkA_bd (D : DfaD) : ∀ k, k ≤ 30 → rkA D k ≤ 205891132094649 * k
  | 0, _ => by simp [rkA]
  | k + 1, h => by
    have := rkA_bd D k (by omega)
    have := cnt_bd D (show k ≤ 30 by omega) 0
    show rkA D k + cnt D k 0 ≤ _
    omega
/-- The rank behind i letters. -/
def rkB (D : DfaD) (s : ByteArray) : Nat → Nat
  | 0 => rkA D s.size
  | i + 1 => rkB D s i + cns D (s.size - 1 - i) (stt D s 0 i) (ltr s i)
theorem rkB_bd (D : DfaD) {s : ByteArray} (hl : letS s) (h8 : s.size ≤ 8) : ∀ i, i ≤ s.size → rkB D s i ≤ 205891132094649 * (8 + 3 * i)
  | 0, _ => by
    have := rkA_bd D s.size (by omega)
    show rkA D s.size ≤ _
    omega
  | i + 1, h => by
    have := rkB_bd D hl h8 i (by omega)
    have h3 := (ltr_lt hl (show i < s.size by omega)).1
    have := cns_bd D (show s.size - 1 - i ≤ 30 by omega) (stt D s 0 i) (ltr s i) (by omega)
    show rkB D s i + cns D (s.size - 1 - i) (stt D s 0 i) (ltr s i) ≤ _
    omega
open Classical in
/-- The answer of RankWord. -/
noncomputable def rkv (D : DfaD) (s : ByteArray) : Int := if okD D ∧ (letS s ∧ s.size ≤ 8) then ((rkB D s s.size : Nat) : Int) else -1
theorem rkv_yes {D : DfaD} {s : ByteArray} (h1 : okD D) (h2 : letS s ∧ s.size ≤ 8) : rkv D s = ((rkB D s s.size : Nat) : Int) := by unfold rkv; rw [if_pos ⟨h1, h2⟩]
theorem rkv_no1 {D : DfaD} {s : ByteArray} (h : ¬ okD D) : rkv D s = -1 := by unfold rkv; rw [if_neg fun hh => h hh.1]
theorem rkv_no2 {D : DfaD} {s : ByteArray} (h : ¬ (letS s ∧ s.size ≤ 8)) : rkv D s = -1 := by unfold rkv; rw [if_neg fun hh => h hh.2]
set_option maxHeartbeats 2000000 in
theorem sRankWord_c (vn ve : Value) (D : DfaD) (s : ByteArray) (w : World) (h : DfaR S w vn ve D) (hs : s.size ≤ maxLen) :
    Calls Try.prog 21 #[.agg #[vn, ve], .string s] w (RX w (.int .i64 (rkv D s))) := by
  obtain ⟨a, c, b, d, rfl, rfl, hn, hm⟩ := (h).shapes
  obtain ⟨W, hW⟩ : ∃ W, W = w.alloc (.cells #[.slice a D.1.length c, .slice b D.2.length d] 29) := ⟨_, rfl⟩
  have Hb0 : Hid (Below w.heap.size w W) := by rw [hW]; exact (Below.refl _ _).alloc (Nat.le_refl _) _
  have c0 : W.cell? ⟨w.heap.size, 0, none⟩ = some (.slice a D.1.length c) := by rw [hW, World.cell?_alloc_mark]; rfl
  have c1 : W.cell? ⟨w.heap.size, 1, none⟩ = some (.slice b D.2.length d) := by rw [hW, World.cell?_alloc_mark]; rfl
  have K0 : Hid (W.heap[w.heap.size]? = some (.cells #[.slice a D.1.length c, .slice b D.2.length d] 29 (0, 0))) := by rw [hW]; exact blkNew _ _ rfl
  have Hz : Hid (W.heap.size = w.heap.size + 1) := by rw [hW]; simp [Hid]
  have H := Lib.hid ((h).stay (kpB Hb0.out)); clear h
  have HW := Lib.hid hW; clear hW
  have hbs := Hb0.out.size
  go_enter Try.func21, Try.ntmps21
  go_wp2_with fail
  rw [← HW.out]
  refine (sDfaValid_c _ _ D W H.out).mono ?_
  rintro e w1 ⟨b1, rfl, hb1, hv1⟩
  have hB := Hb0.out.trans (hb1.mono hbs)
  obtain ⟨d0, d1, _, _⟩ := blk2 (blkBel hb1 K0.out)
  cases b1
  · have hp := Lib.hid (hbF hv1); clear hv1
    go_wp2
    go_ret
    exact ⟨by rw [rkv_no1 hp.out]; rfl, hB⟩
  have HD := Lib.hid (hbT hv1); clear hv1
  go_wp2_with fail
  refine (sWordValid_c s _ hs).mono ?_
  rintro e w2 ⟨b2, rfl, rfl, hv2⟩
  cases b2
  · have hp := Lib.hid (hbF hv2); clear hv2
    go_wp2
    go_ret
    exact ⟨by rw [rkv_no2 hp.out]; rfl, hB⟩
  have Hl := Lib.hid (hbT hv2); clear hv2
  have h8 : s.size ≤ 8 := Hl.out.2
  have Hv := Lib.hid (rkv_yes HD.out Hl.out)
  have h0 : 0 < D.1.length := HD.out.1.1
  have hn40 : D.1.length ≤ 40 := HD.out.1.2
  have hBW := hb1
  clear hb1 hB d0 d1 c0 c1
  go_wp2_with fail
  go_loopw [5, 6] (fun x i wr => ∃ k y : Nat, k ≤ s.size ∧ i = .int .i64 k ∧ x = .int .i64 y ∧ Hid (y = rkA D k) ∧ Below W.heap.size W wr) (fun _ i _ => s.size - (intOf i).toNat)
  case atStart => exact ⟨0, 0, by omega, rfl, rfl, rfl, hBW⟩
  case round =>
    obtain ⟨k, y, hk, rfl, rfl, Hy, hb⟩ := hrel
    have hbd := rkA_bd D k (by omega)
    rw [← Hy.out] at hbd
    obtain ⟨c0, c1, _, _⟩ := blk2 (blkBel hb K0.out)
    by_cases hlt : k < s.size
    · have hcb := cnt_bd D (show k ≤ 30 by omega) 0
      go_wp2_with fail
      refine (l17Counts_c _ _ D k _ (H.out.stay (kpB hb)) HD.out (by omega)).mono ?_
      rintro e w3 ⟨v, rfl, hb3, hv⟩
      obtain ⟨G, rfl, _, hg⟩ := hv.out
      have hc := hg.cell (i := 0) (by rw [cntL_len]; exact h0)
      rw [cntL_get D k h0] at hc
      have hB3 := hb.trans (hb3.mono hb.size)
      have Hn : Hid (rkA D (k + 1) = y + cnt D k 0) := by rw [Hy.out]; rfl
      clear hg hv hb3 hb c0 c1
      generalize cnt D k 0 = z at *
      go_wp2
      go_roundw
      case rel => exact ⟨k + 1, y + z, by omega, by go_num, by go_num, Hn.out.symm, hB3⟩
      case measure => simp [intOf]; omega
    · obtain rfl : k = s.size := by omega
      have Hy2 : Hid (y = rkB D s 0) := Hy.out
      clear c0 c1 Hy hBW hbd
      go_wp2_with fail
      go_loopw [5, 7, 8] (fun x st i wr => ∃ k y z : Nat, k ≤ s.size ∧ i = .int .i64 k ∧ x = .int .i64 y ∧ st = .int .i64 z ∧ Hid (y = rkB D s k ∧ z = stt D s 0 k) ∧ Below W.heap.size W wr) (fun _ _ i _ => s.size - (intOf i).toNat)
      case atStart => exact ⟨0, y, 0, by omega, rfl, rfl, rfl, ⟨Hy2.out, rfl⟩, hb⟩
      case round =>
        clear hb Hy2
        obtain ⟨k, y, z, hk, rfl, rfl, rfl, Hyz, hb⟩ := hrel
        have hbd := rkB_bd D Hl.out.1 h8 k hk
        rw [← Hyz.out.1] at hbd
        have hz := stt_lt HD.out Hl.out.1 0 k (by omega)
        rw [← Hyz.out.2] at hz
        by_cases hlt : k < s.size
        · obtain ⟨c0, c1, _, _⟩ := blk2 (blkBel hb K0.out)
          obtain ⟨m, hm⟩ : ∃ m, m = s.size - 1 - k := ⟨_, rfl⟩
          have hm1 : m ≤ 30 := by omega
          have hmI : (s.size : Int) - (k : Int) - 1 = (m : Int) := by omega
          have Hm := Lib.hid hm; clear hm
          go_wp2_with fail
          refine (l17Counts_c _ _ D m _ (H.out.stay (kpB hb)) HD.out hm1).mono ?_
          rintro e w3 ⟨v, rfl, hb3, hv⟩
          obtain ⟨G, rfl, _, hg⟩ := hv.out
          have hB3 := hb.trans (hb3.mono hb.size)
          have HG := Lib.hid hg
          have HmI := Lib.hid hmI
          obtain ⟨hl3, hl4⟩ := ltr_lt Hl.out.1 hlt
          obtain ⟨q, hq⟩ : ∃ q, q = ltr s k := ⟨_, rfl⟩
          rw [← hq] at hl3 hl4
          have Hq := Lib.hid hq
          have hkI : (k : Int) < (s.size : Int) := by omega
          have hw1 : IntKind.u8.wrap ((s[k].toNat : Int) - 97) = (q : Int) := by rw [hl4]; exact IntWalk.u8_in _ (by omega)
          have Hw1 := Lib.hid hw1
          have Hl4 := Lib.hid hl4
          have HQ : Hid (97 ≤ (s[k].toNat : Int) ∧ (s[k].toNat : Int) = q + 97) := ⟨by omega, by omega⟩
          clear hg hv hb3 hb c0 c1 hq hl4 hmI hw1
          have hq97 : 97 ≤ (s[k].toNat : Int) := HQ.out.1
          have hq99 : (s[k].toNat : Int) ≤ 99 := by have := HQ.out.2; omega
          have k3 := blkBel hB3 K0.out
          obtain ⟨c0, c1, _, _⟩ := blk2 k3
          obtain ⟨bn, on, br, or_, cr, e1, hrW, _, hcW⟩ := (H.out.stay (kpB hB3)).row HD.out hz
          subst e1
          have HcW := Lib.hid hcW; clear hcW k3
          have hn := rkB_bd D Hl.out.1 h8 (k + 1) (by omega)
          go_wp2_with fail
          go_loop [5, 10] (fun x i => ∃ c y2 : Nat, c ≤ q ∧ i = .int .i64 c ∧ x = .int .i64 y2 ∧ Hid (y2 = y + cns D m z c)) (fun _ i => q - (intOf i).toNat)
          case atStart => exact ⟨0, y, by omega, rfl, rfl, by simp [cns, Hid]⟩
          case round =>
            obtain ⟨t, y2, ht, rfl, rfl, Hy2⟩ := hrel
            have hcn := cns_bd D (show m ≤ 30 by omega) z t (by omega)
            have hy2 : y2 ≤ 205891132094649 * (8 + 3 * k) + 205891132094649 * t := by rw [Hy2.out]; omega
            by_cases htl : t < q
            · have hs2 := HcW.out t (by omega)
              have hs3 := dn_lt HD.out hz (show t < 3 by omega)
              have hcg := HG.out.cell (i := dn D z t) (by rw [cntL_len]; exact hs3)
              rw [cntL_get D m hs3] at hcg
              have hcb := cnt_bd D (show m ≤ 30 by omega) (dn D z t)
              have hns : Hid (y2 + cnt D m (dn D z t) = y + cns D m z (t + 1)) := by rw [Hy2.out]; show _ = y + (cns D m z t + cnt D m (dn D z t)); omega
              obtain ⟨v, hv⟩ : ∃ v, v = cnt D m (dn D z t) := ⟨_, rfl⟩
              obtain ⟨u, hu⟩ : ∃ u, u = dn D z t := ⟨_, rfl⟩
              rw [← hv] at hcb hns hcg
              rw [← hu] at hcg hs2 hs3
              clear hv hu
              have htq : (t : Int) < (s[k].toNat : Int) - 97 := by have := HQ.out.2; omega
              go_wp2
              go_round
              case rel => exact ⟨t + 1, y2 + v, by omega, by go_num, by go_num, hns.out⟩
              case measure => simp [intOf]; omega
            · obtain rfl : t = q := by omega
              have htq : ¬ ((t : Int) < (s[k].toNat : Int) - 97) := by have := HQ.out.2; omega
              have hs2 := HcW.out t (by omega)
              have hs3 := dn_lt HD.out hz (show t < 3 by omega)
              have Hn1 : Hid (y2 = rkB D s (k + 1) ∧ dn D z t = stt D s 0 (k + 1)) := by
                refine ⟨?_, ?_⟩
                · rw [Hy2.out, Hyz.out.1, Hyz.out.2, Hm.out, Hq.out]; rfl
                · rw [Hyz.out.2, Hq.out]; show _ = dn D (stt D s 0 k) (ltr s (0 + k)); rw [Nat.zero_add]
              obtain ⟨u, hu⟩ : ∃ u, u = dn D z t := ⟨_, rfl⟩
              rw [← hu] at hs2 hs3 Hn1
              have htI : (t : Int) < 3 := by omega
              have hkI : (k : Int) < (s.size : Int) := by omega
              have hzI : (z : Int) < (D.1.length : Int) := by omega
              have hw1 : IntKind.u8.wrap ((s[k].toNat : Int) - 97) = (t : Int) := Hw1.out
              have hw2 : IntKind.i64.wrap (t : Int) = (t : Int) := IntWalk.i64_in _ (by omega)
              clear hu
              have hBd : Hid (Below W.heap.size W w3) := hB3
              clear hB3
              go_wp2_with fail
              go_quiet (fail)
              go_wp2
              go_roundw
              case rel => exact ⟨k + 1, y2, u, by omega, by go_num, rfl, rfl, Hn1.out, belDrewN hBd.out _⟩
              case measure => simp [intOf]; omega
        · obtain rfl : k = s.size := by omega
          have hB := Hb0.out.trans (hb.mono hbs)
          clear hb
          go_wp2
          go_ret
          exact ⟨by rw [Hv.out, ← Hyz.out.1]; rfl, hB⟩
/-- The world behind a variable that holds the counts. -/
def slotsW (w : World) (n : Nat) (g : Nat → Nat) : World := (w.alloc (.cells #[Value.slice none 0 0, Value.slice none 0 0, Value.slice none 0 0, Value.slice none 0 0, Value.slice none 0 0, Value.slice none 0 0, Value.slice none 0 0, Value.slice none 0 0, Value.slice none 0 0, Value.slice none 0 0, Value.slice none 0 0, Value.slice none 0 0, Value.slice none 0 0, Value.slice none 0 0, Value.slice none 0 0, Value.slice none 0 0, Value.slice none 0 0, Value.slice none 0 0, Value.slice none 0 0, Value.slice none 0 0, Value.slice none 0 0, Value.slice none 0 0, Value.slice none 0 0, Value.slice none 0 0, Value.slice none 0 0, Value.slice none 0 0, Value.slice none 0 0, Value.slice none 0 0, Value.slice none 0 0, Value.slice none 0 0, Value.slice none 0 0] 86)).setCells w.heap.size 0 (cslots n g 31)
theorem slots_lit : (#[Value.slice none 0 0, Value.slice none 0 0, Value.slice none 0 0, Value.slice none 0 0, Value.slice none 0 0, Value.slice none 0 0, Value.slice none 0 0, Value.slice none 0 0, Value.slice none 0 0, Value.slice none 0 0, Value.slice none 0 0, Value.slice none 0 0, Value.slice none 0 0, Value.slice none 0 0, Value.slice none 0 0, Value.slice none 0 0, Value.slice none 0 0, Value.slice none 0 0, Value.slice none 0 0, Value.slice none 0 0, Value.slice none 0 0, Value.slice none 0 0, Value.slice none 0 0, Value.slice none 0 0, Value.slice none 0 0, Value.slice none 0 0, Value.slice none 0 0, Value.slice none 0 0, Value.slice none 0 0, Value.slice none 0 0, Value.slice none 0 0] : Array Value) = (List.replicate 31 (Value.slice none 0 0)).toArray := rfl
theorem slots_row (w : World) : RowV (w.alloc (.cells #[Value.slice none 0 0, Value.slice none 0 0, Value.slice none 0 0, Value.slice none 0 0, Value.slice none 0 0, Value.slice none 0 0, Value.slice none 0 0, Value.slice none 0 0, Value.slice none 0 0, Value.slice none 0 0, Value.slice none 0 0, Value.slice none 0 0, Value.slice none 0 0, Value.slice none 0 0, Value.slice none 0 0, Value.slice none 0 0, Value.slice none 0 0, Value.slice none 0 0, Value.slice none 0 0, Value.slice none 0 0, Value.slice none 0 0, Value.slice none 0 0, Value.slice none 0 0, Value.slice none 0 0, Value.slice none 0 0, Value.slice none 0 0, Value.slice none 0 0, Value.slice none 0 0, Value.slice none 0 0, Value.slice none 0 0, Value.slice none 0 0] 86)) w.heap.size (List.replicate 31 (Value.slice none 0 0)) := by
  unfold RowV Row
  simp only [List.map_id']
  rw [slots_lit]
  exact blkNew _ _ rfl
theorem slots_there (w : World) (n : Nat) (g : Nat → Nat) : (w.alloc (.cells #[Value.slice none 0 0, Value.slice none 0 0, Value.slice none 0 0, Value.slice none 0 0, Value.slice none 0 0, Value.slice none 0 0, Value.slice none 0 0, Value.slice none 0 0, Value.slice none 0 0, Value.slice none 0 0, Value.slice none 0 0, Value.slice none 0 0, Value.slice none 0 0, Value.slice none 0 0, Value.slice none 0 0, Value.slice none 0 0, Value.slice none 0 0, Value.slice none 0 0, Value.slice none 0 0, Value.slice none 0 0, Value.slice none 0 0, Value.slice none 0 0, Value.slice none 0 0, Value.slice none 0 0, Value.slice none 0 0, Value.slice none 0 0, Value.slice none 0 0, Value.slice none 0 0, Value.slice none 0 0, Value.slice none 0 0, Value.slice none 0 0] 86)).there w.heap.size 0 (cslots n g 31).toArray.size := fun j hj => by
  have hj' : j < 31 := by simpa [cslots_len] using hj
  rw [Nat.zero_add]
  exact ⟨by rw [(slots_row w).cell (by simpa using hj')]; rfl, (slots_row w).fz j⟩
theorem slots_one (n : Nat) (g : Nat → Nat) : (cslots n g 31).toArray.all (·.oneCell') = true := by
  refine all_oneCell_toArray fun v hv => ?_
  unfold cslots part at hv
  obtain ⟨i, _, rfl⟩ := List.mem_map.1 hv
  split <;> rfl
theorem slots_info (n : Nat) (g : Nat → Nat) : (Try.prog.info? 86).map (·.size) = some (cslots n g 31).toArray.size := by
  have : (Try.prog.info? 86).map (·.size) = some 31 := by kernel_rfl
  rw [this]; simp [cslots_len]
theorem slots_below (w : World) (n : Nat) (g : Nat → Nat) : Below w.heap.size w (slotsW w n g) := setCells_below (Nat.le_refl _) _ _ _ ((Below.refl _ _).alloc (Nat.le_refl _) _)
theorem slots_cell (w : World) (n : Nat) (g : Nat → Nat) {i : Nat} (hi : i < 31) : (slotsW w n g).cell? ⟨w.heap.size, i, none⟩ = some (.slice (some ⟨g i, 0, none⟩) n n) := by
  have h := World.rangeAt_setCells_same (w.alloc (.cells #[Value.slice none 0 0, Value.slice none 0 0, Value.slice none 0 0, Value.slice none 0 0, Value.slice none 0 0, Value.slice none 0 0, Value.slice none 0 0, Value.slice none 0 0, Value.slice none 0 0, Value.slice none 0 0, Value.slice none 0 0, Value.slice none 0 0, Value.slice none 0 0, Value.slice none 0 0, Value.slice none 0 0, Value.slice none 0 0, Value.slice none 0 0, Value.slice none 0 0, Value.slice none 0 0, Value.slice none 0 0, Value.slice none 0 0, Value.slice none 0 0, Value.slice none 0 0, Value.slice none 0 0, Value.slice none 0 0, Value.slice none 0 0, Value.slice none 0 0, Value.slice none 0 0, Value.slice none 0 0, Value.slice none 0 0, Value.slice none 0 0] 86)) w.heap.size 0 (cslots n g 31) (by have := slots_there w n g; rwa [List.size_toArray] at this)
  have := h i (.slice (some ⟨g i, 0, none⟩) n n) (by rw [List.getElem?_eq_getElem (by rw [cslots_len]; exact hi), cslots_get hi hi])
  rw [Nat.zero_add] at this
  exact this
theorem slots_size (w : World) (n : Nat) (g : Nat → Nat) : w.heap.size < (slotsW w n g).heap.size := by
  have := slots_cell w n g (i := 0) (by omega)
  exact World.block_lt_of_cell? _ _ this
set_option maxHeartbeats 200000 in
theorem RankWord_c (vn ve : Value) (D : DfaD) (s : ByteArray) (w : World) (h : DfaR S w vn ve D) (hs : s.size ≤ maxLen) :
    Calls Try.prog 22 #[.agg #[vn, ve], .string s] w (RX w (.int .i64 (rkv D s))) := by
  obtain ⟨a, c, b, d, rfl, rfl, hn, hm⟩ := (h).shapes
  obtain ⟨W, hW⟩ : ∃ W, W = w.alloc (.cells #[.slice a D.1.length c, .slice b D.2.length d] 29) := ⟨_, rfl⟩
  have Hb0 : Hid (Below w.heap.size w W) := by rw [hW]; exact (Below.refl _ _).alloc (Nat.le_refl _) _
  have c0 : W.cell? ⟨w.heap.size, 0, none⟩ = some (.slice a D.1.length c) := by rw [hW, World.cell?_alloc_mark]; rfl
  have c1 : W.cell? ⟨w.heap.size, 1, none⟩ = some (.slice b D.2.length d) := by rw [hW, World.cell?_alloc_mark]; rfl
  have K0 : Hid (W.heap[w.heap.size]? = some (.cells #[.slice a D.1.length c, .slice b D.2.length d] 29 (0, 0))) := by rw [hW]; exact blkNew _ _ rfl
  have Hz : Hid (W.heap.size = w.heap.size + 1) := by rw [hW]; simp [Hid]
  have H := Lib.hid ((h).stay (kpB Hb0.out)); clear h
  have HW := Lib.hid hW; clear hW
  have hbs := Hb0.out.size
  go_enter Try.func22, Try.ntmps22
  go_wp2_with fail
  rw [← HW.out]
  refine (DfaValid_c _ _ D W H.out).mono ?_
  rintro e w1 ⟨b1, rfl, hb1, hv1⟩
  have hB := Hb0.out.trans (hb1.mono hbs)
  obtain ⟨d0, d1, _, _⟩ := blk2 (blkBel hb1 K0.out)
  cases b1
  · have hp := Lib.hid (hbF hv1); clear hv1
    go_wp2
    go_ret
    exact ⟨by rw [rkv_no1 hp.out]; rfl, hB⟩
  have HD := Lib.hid (hbT hv1); clear hv1
  go_wp2_with fail
  refine (WordValid_c s _ hs).mono ?_
  rintro e w2 ⟨b2, rfl, rfl, hv2⟩
  cases b2
  · have hp := Lib.hid (hbF hv2); clear hv2
    go_wp2
    go_ret
    exact ⟨by rw [rkv_no2 hp.out]; rfl, hB⟩
  have Hl := Lib.hid (hbT hv2); clear hv2
  have h8 : s.size ≤ 8 := Hl.out.2
  have Hv := Lib.hid (rkv_yes HD.out Hl.out)
  have h0 : 0 < D.1.length := HD.out.1.1
  have hn40 : D.1.length ≤ 40 := HD.out.1.2
  go_wp2_with fail
  refine (counts_c _ _ D _ (H.out.stay (kpB hb1)) HD.out).mono ?_
  rintro e w3 ⟨v, rfl, hb3, hv⟩
  obtain ⟨g, rfl, hg⟩ := hv.out
  have HG := Lib.hid hg
  have hB3 := hb1.trans (hb3.mono hb1.size)
  clear hg hv hb3 hb1 hB d0 d1 c0 c1
  go_wp2_with ((refine wpList_store_mid rfl 86 (.tmp 5) (.tmp 20) rfl w3.heap.size 0 _ rfl rfl (slots_there _ _ _) (slots_info _ _) (slots_one _ _) ?_); change wpList _ _ _ _ _ (slotsW w3 D.1.length g); obtain ⟨W5, hW5⟩ : ∃ W5, W5 = slotsW w3 D.1.length g := ⟨_, rfl⟩; rw [← hW5]; have HW5 := Lib.hid hW5; clear hW5)
  have hb5 : Below w3.heap.size w3 W5 := by rw [HW5.out]; exact slots_below _ _ _
  have hB5 := hB3.trans (hb5.mono hB3.size)
  have HC : Hid (∀ i, i < 31 → W5.cell? ⟨w3.heap.size, i, none⟩ = some (.slice (some ⟨g i, 0, none⟩) D.1.length D.1.length)) := fun i hi => by rw [HW5.out]; exact slots_cell _ _ _ hi
  have HG5 : Hid (∀ i, i < 31 → RowI W5 (g i) (cntL D i)) := fun i hi => (HG.out i hi).2.stay hb5
  have H5 := Lib.hid (H.out.stay (kpB hB5))
  have K5 := Lib.hid (blkBel hB5 K0.out)
  generalize hB0 : w3.heap.size = B at *
  clear HG hb5 HW5
  go_loop [6, 23] (fun x i => ∃ k y : Nat, k ≤ s.size ∧ i = .int .i64 k ∧ x = .int .i64 y ∧ Hid (y = rkA D k)) (fun _ i => s.size - (intOf i).toNat)
  case atStart => exact ⟨0, 0, by omega, rfl, rfl, rfl⟩
  case round =>
    obtain ⟨k, y, hk, rfl, rfl, Hy⟩ := hrel
    have hbd := rkA_bd D k (by omega)
    rw [← Hy.out] at hbd
    by_cases hlt : k < s.size
    · have hcb := cnt_bd D (show k ≤ 30 by omega) 0
      have hc1 := HC.out k (by omega)
      have hc := (HG5.out k (by omega)).cell (i := 0) (by rw [cntL_len]; exact h0)
      rw [cntL_get D k h0] at hc
      have Hn : Hid (rkA D (k + 1) = y + cnt D k 0) := by rw [Hy.out]; rfl
      generalize cnt D k 0 = z at *
      generalize g k = G at *
      go_wp2
      go_round
      case rel => exact ⟨k + 1, y + z, by omega, by go_num, by go_num, Hn.out.symm⟩
      case measure => simp [intOf]; omega
    · obtain rfl : k = s.size := by omega
      have Hy2 : Hid (y = rkB D s 0) := Hy.out
      clear Hy hbd
      go_wp2_with fail
      go_loopw [6, 8, 36] (fun x st i wr => ∃ k y z : Nat, k ≤ s.size ∧ i = .int .i64 k ∧ x = .int .i64 y ∧ st = .int .i64 z ∧ Hid (y = rkB D s k ∧ z = stt D s 0 k) ∧ ∃ q, wr = W5.drewN q) (fun _ _ i _ => s.size - (intOf i).toNat)
      case atStart => exact ⟨0, y, 0, by omega, rfl, rfl, rfl, ⟨Hy2.out, rfl⟩, 0, rfl⟩
      case round =>
        clear Hy2
        obtain ⟨k, y, z, hk, rfl, rfl, rfl, Hyz, nq, rfl⟩ := hrel
        have hbd := rkB_bd D Hl.out.1 h8 k hk
        rw [← Hyz.out.1] at hbd
        have hz := stt_lt HD.out Hl.out.1 0 k (by omega)
        rw [← Hyz.out.2] at hz
        by_cases hlt : k < s.size
        · obtain ⟨c0, c1, _, _⟩ := blk2 K5.out
          obtain ⟨m, hm⟩ : ∃ m, m = s.size - 1 - k := ⟨_, rfl⟩
          have hm1 : m < 31 := by omega
          have hmI : IntKind.i64.wrap ((s.size : Int) - 1 - (k : Int)) = (m : Int) := by rw [IntWalk.i64_in _ (by omega)]; omega
          have hmJ : IntKind.i64.wrap ((s.size : Int) - 1) = (s.size : Int) - 1 := IntWalk.i64_in _ (by omega)
          have Hm := Lib.hid hm
          have HmI := Lib.hid hmI
          have HmJ := Lib.hid hmJ
          obtain ⟨bn, on, br, or_, cr, e1, hrW, _, hcW⟩ := H5.out.row HD.out hz
          subst e1
          have HcW := Lib.hid hcW
          have hl3 := (ltr_lt Hl.out.1 hlt).1
          obtain ⟨q, hq⟩ : ∃ q, q = ltr s k := ⟨_, rfl⟩
          have Hlx := letter_x s k
          rw [← hq] at hl3 Hlx
          have HLX := Lib.hid Hlx
          have Hq := Lib.hid hq
          have hn := rkB_bd D Hl.out.1 h8 (k + 1) (by omega)
          have hsl : s.size ≤ maxLen := hs
          have hcm := HC.out m hm1
          obtain ⟨gm, hgm⟩ : ∃ gm, gm = g m := ⟨_, rfl⟩
          have HGm := Lib.hid (HG5.out m hm1)
          rw [← hgm] at hcm HGm
          clear hm hmI hmJ hcW hq Hlx hgm
          go_wp2_with fail
          refine (HLX.out _ hsl hlt Hl.out.1).mono ?_
          rintro e w6 ⟨rfl, rfl⟩
          go_wp2_with fail
          go_loopw [6, 42] (fun x i wr => ∃ c y2 : Nat, c ≤ q ∧ i = .int .i64 c ∧ x = .int .i64 y2 ∧ Hid (y2 = y + cns D m z c) ∧ ∃ q, wr = W5.drewN q) (fun _ i _ => q - (intOf i).toNat)
          case atStart => exact ⟨0, y, by omega, rfl, rfl, by simp [cns, Hid], _, rfl⟩
          case round =>
            obtain ⟨t, y2, ht, rfl, rfl, Hy2, nq2, rfl⟩ := hrel
            have hcn := cns_bd D (show m ≤ 30 by omega) z t (by omega)
            have hy2 : y2 ≤ 205891132094649 * (8 + 3 * k) + 205891132094649 * t := by rw [Hy2.out]; omega
            by_cases htl : t < q
            · have hs2 := HcW.out t (by omega)
              have hs3 := dn_lt HD.out hz (show t < 3 by omega)
              have hcg := HGm.out.cell (i := dn D z t) (by rw [cntL_len]; exact hs3)
              rw [cntL_get D m hs3] at hcg
              have hcb := cnt_bd D (show m ≤ 30 by omega) (dn D z t)
              have hns : Hid (y2 + cnt D m (dn D z t) = y + cns D m z (t + 1)) := by rw [Hy2.out]; show _ = y + (cns D m z t + cnt D m (dn D z t)); omega
              obtain ⟨v, hv⟩ : ∃ v, v = cnt D m (dn D z t) := ⟨_, rfl⟩
              obtain ⟨u, hu⟩ : ∃ u, u = dn D z t := ⟨_, rfl⟩
              rw [← hv] at hcb hns hcg
              rw [← hu] at hcg hs2 hs3
              clear hv hu
              have hmI := HmI.out
              have hmJ := HmJ.out
              have htI : (t : Int) < 3 := by omega
              have hzI : (z : Int) < (D.1.length : Int) := by omega
              have huI : (u : Int) < (D.1.length : Int) := by omega
              have hm31 : (m : Int) < 31 := by omega
              have hwy : IntKind.i64.wrap ((y2 : Int) + (v : Int)) = (y2 : Int) + (v : Int) := IntWalk.i64_in _ (by omega)
              go_wp2_with fail
              go_quiet (fail)
              go_wp2
              go_roundw
              case rel => exact ⟨t + 1, y2 + v, by omega, by go_num, by go_num, hns.out, _, rfl⟩
              case measure => simp [intOf]; omega
            · obtain rfl : t = q := by omega
              have hs2 := HcW.out t (by omega)
              have hs3 := dn_lt HD.out hz (show t < 3 by omega)
              have Hn1 : Hid (y2 = rkB D s (k + 1) ∧ dn D z t = stt D s 0 (k + 1)) := by
                refine ⟨?_, ?_⟩
                · rw [Hy2.out, Hyz.out.1, Hyz.out.2, Hm.out, Hq.out]; rfl
                · rw [Hyz.out.2, Hq.out]; show _ = dn D (stt D s 0 k) (ltr s (0 + k)); rw [Nat.zero_add]
              obtain ⟨u, hu⟩ : ∃ u, u = dn D z t := ⟨_, rfl⟩
              rw [← hu] at hs2 hs3 Hn1
              have htI : (t : Int) < 3 := by omega
              have hzI : (z : Int) < (D.1.length : Int) := by omega
              clear hu
              go_wp2_with fail
              go_quiet ((go_at_call 73; exact qAdd (HLX.out _ hsl hlt Hl.out.1)))
              go_wp2
              go_roundw
              case rel => exact ⟨k + 1, y2, u, by omega, by go_num, rfl, rfl, Hn1.out, _, rfl⟩
              case measure => simp [intOf]; omega
        · obtain rfl : k = s.size := by omega
          have hB := Hb0.out.trans (hB5.mono hbs)
          go_wp2
          go_ret
          exact ⟨by rw [Hv.out, ← Hyz.out.1]; rfl, belDrewN hB _⟩
end Go.Proofs.Ytmgebneniadabaa
