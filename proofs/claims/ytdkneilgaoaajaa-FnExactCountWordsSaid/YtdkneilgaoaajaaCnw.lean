/- Counting words: CountWords, RankWord, WordNumber; the program's and the reference's answers. No condition. -/
import Derived.Test.YtdkneilgaoaajaaCni
import Derived.Test.YtdkneilgaoaajaaTxt
namespace Go.Proofs.Ytdkneilgaoaajaa
open Go.RowKit
set_option maxRecDepth 100000
variable {S : Nat → Prop}

theorem index31 (n : Nat) (g : Nat → Nat) (l : Nat) (hl : l < 31) (w : World) : (Instr.index 98 (.agg (cslots n g 31).toArray) (.int .i64 l)).run Try.prog w = .ok (.slice (some ⟨g l, 0, none⟩) n n) w := by
  have hlen := cslots_len n g 31
  have hc : (cslots n g 31).toArray[l]? = some (.slice (some ⟨g l, 0, none⟩) n n) := by
    rw [List.getElem?_toArray, List.getElem?_eq_getElem (by omega), cslots_get hl hl]
  rw [List.getElem?_toArray] at hc
  simp [Instr.index, run_underlying Try.underlying98, asIntOf, go_sem, Go.part]
  rw [if_pos hl, hc]
  rfl
/-- The call answers v; new memory at most. -/
def RX (w : World) (v : Value) (e : Ending) (w' : World) : Prop := e = .returned v ∧ Below w.heap.size w w'
open Classical in
/-- The answer of CountWords. -/
noncomputable def cwv (D : DfaD) (l : Int) : Int := if okD D ∧ 0 ≤ l ∧ l ≤ 30 then ((cnt D l.toNat 0 : Nat) : Int) else -1
theorem cwv_yes {D : DfaD} {l : Int} (h1 : okD D) (h2 : 0 ≤ l ∧ l ≤ 30) : cwv D l = ((cnt D l.toNat 0 : Nat) : Int) := by unfold cwv; rw [if_pos ⟨h1, h2⟩]
theorem cwv_no1 {D : DfaD} {l : Int} (h : ¬ okD D) : cwv D l = -1 := by unfold cwv; rw [if_neg fun hh => h hh.1]
theorem cwv_no2 {D : DfaD} {l : Int} (h : ¬ (0 ≤ l ∧ l ≤ 30)) : cwv D l = -1 := by unfold cwv; rw [if_neg fun hh => h hh.2]
set_option maxHeartbeats 1000000 in
theorem CountWords_c (vn ve : Value) (D : DfaD) (l : Int) (w : World) (h : DfaR S w vn ve D) :
    Calls Try.prog 40 #[.agg #[vn, ve], .int .i64 l] w (RX w (.int .i64 (cwv D l))) := by
  obtain ⟨a, c, b, d, rfl, rfl, hn, hm⟩ := (h).shapes
  obtain ⟨W, hW⟩ : ∃ W, W = w.alloc (.cells #[.slice a D.1.length c, .slice b D.2.length d] 52) := ⟨_, rfl⟩
  have Hb0 : Hid (Below w.heap.size w W) := by rw [hW]; exact (Below.refl _ _).alloc (Nat.le_refl _) _
  have c0 : W.cell? ⟨w.heap.size, 0, none⟩ = some (.slice a D.1.length c) := by rw [hW, World.cell?_alloc_mark]; rfl
  have c1 : W.cell? ⟨w.heap.size, 1, none⟩ = some (.slice b D.2.length d) := by rw [hW, World.cell?_alloc_mark]; rfl
  have K0 : Hid (W.heap[w.heap.size]? = some (.cells #[.slice a D.1.length c, .slice b D.2.length d] 52 (0, 0))) := by rw [hW]; exact blkNew _ _ rfl
  have Hz : Hid (W.heap.size = w.heap.size + 1) := by rw [hW]; simp [Hid]
  have H := Lib.hid ((h).stay (kpB Hb0.out)); clear h
  have HW := Lib.hid hW; clear hW
  have hbs := Hb0.out.size
  go_enter Try.func40, Try.ntmps40
  go_wp2_with fail
  rw [← HW.out]
  refine (DfaValid_c _ _ D W H.out).mono ?_
  rintro e w1 ⟨b1, rfl, hb1, hv1⟩
  have hB := Hb0.out.trans (hb1.mono hbs)
  obtain ⟨d0, d1, _, _⟩ := blk2 (blkBel hb1 K0.out)
  cases b1
  · have hp := Lib.hid (hbF hv1); clear hv1
    go_wp2
    go_ret
    exact ⟨by rw [cwv_no1 hp.out]; rfl, hB⟩
  have hp1 := Lib.hid (hbT hv1); clear hv1
  go_wp2_with fail
  refine (within_c _ _ _ _).mono ?_
  rintro e w2 ⟨b2, rfl, rfl, hv2⟩
  cases b2
  · have hp := Lib.hid (hbF hv2); clear hv2
    go_wp2
    go_ret
    exact ⟨by rw [cwv_no2 hp.out]; rfl, hB⟩
  have hp2 := hbT hv2
  have Hv := Lib.hid (cwv_yes hp1.out hp2)
  obtain ⟨k, rfl⟩ : ∃ k : Nat, l = (k : Int) := ⟨l.toNat, by omega⟩
  have hk : k ≤ 30 := by omega
  rw [Int.toNat_natCast] at Hv
  clear hp2 hv2
  have h0 : 0 < D.1.length := hp1.out.1.1
  have hn40 : D.1.length ≤ 40 := hp1.out.1.2
  go_wp2_with fail
  refine (counts_c _ _ D _ (H.out.stay (kpB hb1)) hp1.out).mono ?_
  rintro e w3 ⟨v, rfl, hb3, hv⟩
  obtain ⟨g, rfl, hg⟩ := hv.out
  have hB3 := hB.trans (hb3.mono hB.size)
  have hix := fun W : World => index31 D.1.length g k (by omega) W
  have hc := (hg k (by omega)).2.cell (i := 0) (by rw [cntL_len]; exact h0)
  rw [cntL_get D k h0] at hc
  clear hg hv hb3 hb1 hB d0 d1
  generalize g k = G at *
  go_wp2
  go_ret
  exact ⟨by rw [Hv.out]; rfl, hB3⟩
set_option maxHeartbeats 1000000 in
theorem sCountWords_c (vn ve : Value) (D : DfaD) (l : Int) (w : World) (h : DfaR S w vn ve D) :
    Calls Try.prog 38 #[.agg #[vn, ve], .int .i64 l] w (RX w (.int .i64 (cwv D l))) := by
  obtain ⟨a, c, b, d, rfl, rfl, hn, hm⟩ := (h).shapes
  obtain ⟨W, hW⟩ : ∃ W, W = w.alloc (.cells #[.slice a D.1.length c, .slice b D.2.length d] 52) := ⟨_, rfl⟩
  have Hb0 : Hid (Below w.heap.size w W) := by rw [hW]; exact (Below.refl _ _).alloc (Nat.le_refl _) _
  have c0 : W.cell? ⟨w.heap.size, 0, none⟩ = some (.slice a D.1.length c) := by rw [hW, World.cell?_alloc_mark]; rfl
  have c1 : W.cell? ⟨w.heap.size, 1, none⟩ = some (.slice b D.2.length d) := by rw [hW, World.cell?_alloc_mark]; rfl
  have K0 : Hid (W.heap[w.heap.size]? = some (.cells #[.slice a D.1.length c, .slice b D.2.length d] 52 (0, 0))) := by rw [hW]; exact blkNew _ _ rfl
  have Hz : Hid (W.heap.size = w.heap.size + 1) := by rw [hW]; simp [Hid]
  have H := Lib.hid ((h).stay (kpB Hb0.out)); clear h
  have HW := Lib.hid hW; clear hW
  have hbs := Hb0.out.size
  go_enter Try.func38, Try.ntmps38
  go_wp2_with fail
  rw [← HW.out]
  refine (sDfaValid_c _ _ D W H.out).mono ?_
  rintro e w1 ⟨b1, rfl, hb1, hv1⟩
  have hB := Hb0.out.trans (hb1.mono hbs)
  obtain ⟨d0, d1, _, _⟩ := blk2 (blkBel hb1 K0.out)
  cases b1
  · have hp := Lib.hid (hbF hv1); clear hv1
    go_wp2
    go_ret
    exact ⟨by rw [cwv_no1 hp.out]; rfl, hB⟩
  have hp1 := Lib.hid (hbT hv1); clear hv1
  go_wp2_with fail
  refine (l1In_c _ _ _ _).mono ?_
  rintro e w2 ⟨b2, rfl, rfl, hv2⟩
  cases b2
  · have hp := Lib.hid (hbF hv2); clear hv2
    go_wp2
    go_ret
    exact ⟨by rw [cwv_no2 hp.out]; rfl, hB⟩
  have hp2 := hbT hv2
  have Hv := Lib.hid (cwv_yes hp1.out hp2)
  obtain ⟨k, rfl⟩ : ∃ k : Nat, l = (k : Int) := ⟨l.toNat, by omega⟩
  have hk : k ≤ 30 := by omega
  rw [Int.toNat_natCast] at Hv
  clear hp2 hv2
  have h0 : 0 < D.1.length := hp1.out.1.1
  have hn40 : D.1.length ≤ 40 := hp1.out.1.2
  go_wp2_with fail
  refine (l17Counts_c _ _ D k _ (H.out.stay (kpB hb1)) hp1.out hk).mono ?_
  rintro e w3 ⟨v, rfl, hb3, hv⟩
  obtain ⟨G, rfl, _, hg⟩ := hv.out
  have hB3 := hB.trans (hb3.mono hB.size)
  have hc := hg.cell (i := 0) (by rw [cntL_len]; exact h0)
  rw [cntL_get D k h0] at hc
  clear hg hv hb3 hb1 hB d0 d1
  go_wp2
  go_ret
  exact ⟨by rw [Hv.out]; rfl, hB3⟩
/-- How many words are shorter. -/
def rkA (D : DfaD) : Nat → Nat
  | 0 => 0
  | k + 1 => rkA D k + cnt D k 0
theorem rkA_bd (D : DfaD) : ∀ k, k ≤ 30 → rkA D k ≤ 205891132094649 * k
  | 0, _ => by simp [rkA]
  | k + 1, h => by
    have := rkA_bd D k (by omega)
    have := cnt_bd D (show k ≤ 30 by omega) 0
    show rkA D k + cnt D k 0 ≤ _
    omega
/-- The rank behind i letters. -/
def rkB (D : DfaD) (s : ByteArray) : Nat → Nat
  | 0 => rkA D s.size
  | i + 1 => rkB D s i + cns D (s.size - 1 - i) (stt D s 0 i) (ltr s i)
theorem rkB_bd (D : DfaD) {s : ByteArray} (hl : letS s) (h8 : s.size ≤ 8) : ∀ i, i ≤ s.size → rkB D s i ≤ 205891132094649 * (8 + 3 * i)
  | 0, _ => by
    have := rkA_bd D s.size (by omega)
    show rkA D s.size ≤ _
    omega
  | i + 1, h => by
    have := rkB_bd D hl h8 i (by omega)
    have h3 := (ltr_lt hl (show i < s.size by omega)).1
    have := cns_bd D (show s.size - 1 - i ≤ 30 by omega) (stt D s 0 i) (ltr s i) (by omega)
    show rkB D s i + cns D (s.size - 1 - i) (stt D s 0 i) (ltr s i) ≤ _
    omega
open Classical in
/-- The answer of RankWord. -/
noncomputable def rkv (D : DfaD) (s : ByteArray) : Int := if okD D ∧ (letS s ∧ s.size ≤ 8) then ((rkB D s s.size : Nat) : Int) else -1
theorem rkv_yes {D : DfaD} {s : ByteArray} (h1 : okD D) (h2 : letS s ∧ s.size ≤ 8) : rkv D s = ((rkB D s s.size : Nat) : Int) := by unfold rkv; rw [if_pos ⟨h1, h2⟩]
theorem rkv_no1 {D : DfaD} {s : ByteArray} (h : ¬ okD D) : rkv D s = -1 := by unfold rkv; rw [if_neg fun hh => h hh.1]
theorem rkv_no2 {D : DfaD} {s : ByteArray} (h : ¬ (letS s ∧ s.size ≤ 8)) : rkv D s = -1 := by unfold rkv; rw [if_neg fun hh => h hh.2]
/-- The world behind a variable that holds the counts. -/
def slotsW (w : World) (n : Nat) (g : Nat → Nat) : World := (w.alloc (.cells #[Value.slice none 0 0, Value.slice none 0 0, Value.slice none 0 0, Value.slice none 0 0, Value.slice none 0 0, Value.slice none 0 0, Value.slice none 0 0, Value.slice none 0 0, Value.slice none 0 0, Value.slice none 0 0, Value.slice none 0 0, Value.slice none 0 0, Value.slice none 0 0, Value.slice none 0 0, Value.slice none 0 0, Value.slice none 0 0, Value.slice none 0 0, Value.slice none 0 0, Value.slice none 0 0, Value.slice none 0 0, Value.slice none 0 0, Value.slice none 0 0, Value.slice none 0 0, Value.slice none 0 0, Value.slice none 0 0, Value.slice none 0 0, Value.slice none 0 0, Value.slice none 0 0, Value.slice none 0 0, Value.slice none 0 0, Value.slice none 0 0] 98)).setCells w.heap.size 0 (cslots n g 31)
theorem slots_lit : (#[Value.slice none 0 0, Value.slice none 0 0, Value.slice none 0 0, Value.slice none 0 0, Value.slice none 0 0, Value.slice none 0 0, Value.slice none 0 0, Value.slice none 0 0, Value.slice none 0 0, Value.slice none 0 0, Value.slice none 0 0, Value.slice none 0 0, Value.slice none 0 0, Value.slice none 0 0, Value.slice none 0 0, Value.slice none 0 0, Value.slice none 0 0, Value.slice none 0 0, Value.slice none 0 0, Value.slice none 0 0, Value.slice none 0 0, Value.slice none 0 0, Value.slice none 0 0, Value.slice none 0 0, Value.slice none 0 0, Value.slice none 0 0, Value.slice none 0 0, Value.slice none 0 0, Value.slice none 0 0, Value.slice none 0 0, Value.slice none 0 0] : Array Value) = (List.replicate 31 (Value.slice none 0 0)).toArray := rfl
theorem slots_row (w : World) : RowV (w.alloc (.cells #[Value.slice none 0 0, Value.slice none 0 0, Value.slice none 0 0, Value.slice none 0 0, Value.slice none 0 0, Value.slice none 0 0, Value.slice none 0 0, Value.slice none 0 0, Value.slice none 0 0, Value.slice none 0 0, Value.slice none 0 0, Value.slice none 0 0, Value.slice none 0 0, Value.slice none 0 0, Value.slice none 0 0, Value.slice none 0 0, Value.slice none 0 0, Value.slice none 0 0, Value.slice none 0 0, Value.slice none 0 0, Value.slice none 0 0, Value.slice none 0 0, Value.slice none 0 0, Value.slice none 0 0, Value.slice none 0 0, Value.slice none 0 0, Value.slice none 0 0, Value.slice none 0 0, Value.slice none 0 0, Value.slice none 0 0, Value.slice none 0 0] 98)) w.heap.size (List.replicate 31 (Value.slice none 0 0)) := by
  unfold RowV Row
  simp only [List.map_id']
  rw [slots_lit]
  exact blkNew _ _ rfl
theorem slots_there (w : World) (n : Nat) (g : Nat → Nat) : (w.alloc (.cells #[Value.slice none 0 0, Value.slice none 0 0, Value.slice none 0 0, Value.slice none 0 0, Value.slice none 0 0, Value.slice none 0 0, Value.slice none 0 0, Value.slice none 0 0, Value.slice none 0 0, Value.slice none 0 0, Value.slice none 0 0, Value.slice none 0 0, Value.slice none 0 0, Value.slice none 0 0, Value.slice none 0 0, Value.slice none 0 0, Value.slice none 0 0, Value.slice none 0 0, Value.slice none 0 0, Value.slice none 0 0, Value.slice none 0 0, Value.slice none 0 0, Value.slice none 0 0, Value.slice none 0 0, Value.slice none 0 0, Value.slice none 0 0, Value.slice none 0 0, Value.slice none 0 0, Value.slice none 0 0, Value.slice none 0 0, Value.slice none 0 0] 98)).there w.heap.size 0 (cslots n g 31).toArray.size := fun j hj => by
  have hj' : j < 31 := by simpa [cslots_len] using hj
  rw [Nat.zero_add]
  exact ⟨by rw [(slots_row w).cell (by simpa using hj')]; rfl, (slots_row w).fz j⟩
theorem slots_one (n : Nat) (g : Nat → Nat) : (cslots n g 31).toArray.all (·.oneCell') = true := by
  refine all_oneCell_toArray fun v hv => ?_
  unfold cslots part at hv
  obtain ⟨i, _, rfl⟩ := List.mem_map.1 hv
  split <;> rfl
theorem slots_info (n : Nat) (g : Nat → Nat) : (Try.prog.info? 98).map (·.size) = some (cslots n g 31).toArray.size := by
  have : (Try.prog.info? 98).map (·.size) = some 31 := by kernel_rfl
  rw [this]; simp [cslots_len]
theorem slots_below (w : World) (n : Nat) (g : Nat → Nat) : Below w.heap.size w (slotsW w n g) := setCells_below (Nat.le_refl _) _ _ _ ((Below.refl _ _).alloc (Nat.le_refl _) _)
theorem slots_cell (w : World) (n : Nat) (g : Nat → Nat) {i : Nat} (hi : i < 31) : (slotsW w n g).cell? ⟨w.heap.size, i, none⟩ = some (.slice (some ⟨g i, 0, none⟩) n n) := by
  have h := World.rangeAt_setCells_same (w.alloc (.cells #[Value.slice none 0 0, Value.slice none 0 0, Value.slice none 0 0, Value.slice none 0 0, Value.slice none 0 0, Value.slice none 0 0, Value.slice none 0 0, Value.slice none 0 0, Value.slice none 0 0, Value.slice none 0 0, Value.slice none 0 0, Value.slice none 0 0, Value.slice none 0 0, Value.slice none 0 0, Value.slice none 0 0, Value.slice none 0 0, Value.slice none 0 0, Value.slice none 0 0, Value.slice none 0 0, Value.slice none 0 0, Value.slice none 0 0, Value.slice none 0 0, Value.slice none 0 0, Value.slice none 0 0, Value.slice none 0 0, Value.slice none 0 0, Value.slice none 0 0, Value.slice none 0 0, Value.slice none 0 0, Value.slice none 0 0, Value.slice none 0 0] 98)) w.heap.size 0 (cslots n g 31) (by have := slots_there w n g; rwa [List.size_toArray] at this)
  have := h i (.slice (some ⟨g i, 0, none⟩) n n) (by rw [List.getElem?_eq_getElem (by rw [cslots_len]; exact hi), cslots_get hi hi])
  rw [Nat.zero_add] at this
  exact this
theorem slots_size (w : World) (n : Nat) (g : Nat → Nat) : w.heap.size < (slotsW w n g).heap.size := by
  have := slots_cell w n g (i := 0) (by omega)
  exact World.block_lt_of_cell? _ _ this
end Go.Proofs.Ytdkneilgaoaajaa
