/- Counting words: CountWords, RankWord, WordNumber; the program's and the reference's answers. No condition. -/
import Derived.Test.YthdbgpdidolmaaaCni
import Derived.Test.YthdbgpdidolmaaaTxt
namespace Go.Proofs.Ythdbgpdidolmaaa
open Go.RowKit
set_option maxRecDepth 100000
variable {S : Nat → Prop}

theorem index31 (n : Nat) (g : Nat → Nat) (l : Nat) (hl : l < 31) (w : World) : (Instr.index 91 (.agg (cslots n g 31).toArray) (.int .i64 l)).run Try.prog w = .ok (.slice (some ⟨g l, 0, none⟩) n n) w := by
  have hlen := cslots_len n g 31
  have hc : (cslots n g 31).toArray[l]? = some (.slice (some ⟨g l, 0, none⟩) n n) := by
    rw [List.getElem?_toArray, List.getElem?_eq_getElem (by omega), cslots_get hl hl]
  rw [List.getElem?_toArray] at hc
  simp [Instr.index, run_underlying Try.underlying91, asIntOf, go_sem, Go.part]
  rw [if_pos hl, hc]
  rfl
/-- The call answers v; new memory at most. -/
def RX (w : World) (v : Value) (e : Ending) (w' : World) : Prop := e = .returned v ∧ Below w.heap.size w w'
open Classical in
/-- The answer of CountWords. -/
noncomputable def cwv (D : DfaD) (l : Int) : Int := if okD D ∧ 0 ≤ l ∧ l ≤ 30 then ((cnt D l.toNat 0 : Nat) : Int) else -1
theorem cwv_yes {D : DfaD} {l : Int} (h1 : okD D) (h2 : 0 ≤ l ∧ l ≤ 30) : cwv D l = ((cnt D l.toNat 0 : Nat) : Int) := by unfold cwv; rw [if_pos ⟨h1, h2⟩]
theorem cwv_no1 {D : DfaD} {l : Int} (h : ¬ okD D) : cwv D l = -1 := by unfold cwv; rw [if_neg fun hh => h hh.1]
theorem cwv_no2 {D : DfaD} {l : Int} (h : ¬ (0 ≤ l ∧ l ≤ 30)) : cwv D l = -1 := by unfold cwv; rw [if_neg fun hh => h hh.2]
/-- How many words are shorter. -/
def rkA (D : DfaD) : Nat → Nat
  | 0 => 0
  | k + 1 => rkA D k + cnt D k 0
theorem rkA_bd (D : DfaD) : ∀ k, k ≤ 30 → rkA D k ≤ 205891132094649 * k
  | 0, _ => by simp [rkA]
  | k + 1, h => by
    have := rkA_bd D k (by omega)
    have := cnt_bd D (show k ≤ 30 by omega) 0
    show rkA D k + cnt D k 0 ≤ _
    omega
/-- The rank behind i letters. -/
def rkB (D : DfaD) (s : ByteArray) : Nat → Nat
  | 0 => rkA D s.size
  | i + 1 => rkB D s i + cns D (s.size - 1 - i) (stt D s 0 i) (ltr s i)
theorem rkB_bd (D : DfaD) {s : ByteArray} (hl : letS s) (h8 : s.size ≤ 8) : ∀ i, i ≤ s.size → rkB D s i ≤ 205891132094649 * (8 + 3 * i)
  | 0, _ => by
    have := rkA_bd D s.size (by omega)
    show rkA D s.size ≤ _
    omega
  | i + 1, h => by
    have := rkB_bd D hl h8 i (by omega)
    have h3 := (ltr_lt hl (show i < s.size by omega)).1
    have := cns_bd D (show s.size - 1 - i ≤ 30 by omega) (stt D s 0 i) (ltr s i) (by omega)
    show rkB D s i + cns D (s.size - 1 - i) (stt D s 0 i) (ltr s i) ≤ _
    omega
open Classical in
/-- The answer of RankWord. -/
noncomputable def rkv (D : DfaD) (s : ByteArray) : Int := if okD D ∧ (letS s ∧ s.size ≤ 8) then ((rkB D s s.size : Nat) : Int) else -1
theorem rkv_yes {D : DfaD} {s : ByteArray} (h1 : okD D) (h2 : letS s ∧ s.size ≤ 8) : rkv D s = ((rkB D s s.size : Nat) : Int) := by unfold rkv; rw [if_pos ⟨h1, h2⟩]
theorem rkv_no1 {D : DfaD} {s : ByteArray} (h : ¬ okD D) : rkv D s = -1 := by unfold rkv; rw [if_neg fun hh => h hh.1]
theorem rkv_no2 {D : DfaD} {s : ByteArray} (h : ¬ (letS s ∧ s.size ≤ 8)) : rkv D s = -1 := by unfold rkv; rw [if_neg fun hh => h hh.2]
/-- The world behind a variable that holds the counts. -/
def slotsW (w : World) (n : Nat) (g : Nat → Nat) : World := (w.alloc (.cells #[Value.slice none 0 0, Value.slice none 0 0, Value.slice none 0 0, Value.slice none 0 0, Value.slice none 0 0, Value.slice none 0 0, Value.slice none 0 0, Value.slice none 0 0, Value.slice none 0 0, Value.slice none 0 0, Value.slice none 0 0, Value.slice none 0 0, Value.slice none 0 0, Value.slice none 0 0, Value.slice none 0 0, Value.slice none 0 0, Value.slice none 0 0, Value.slice none 0 0, Value.slice none 0 0, Value.slice none 0 0, Value.slice none 0 0, Value.slice none 0 0, Value.slice none 0 0, Value.slice none 0 0, Value.slice none 0 0, Value.slice none 0 0, Value.slice none 0 0, Value.slice none 0 0, Value.slice none 0 0, Value.slice none 0 0, Value.slice none 0 0] 91)).setCells w.heap.size 0 (cslots n g 31)
theorem slots_lit : (#[Value.slice none 0 0, Value.slice none 0 0, Value.slice none 0 0, Value.slice none 0 0, Value.slice none 0 0, Value.slice none 0 0, Value.slice none 0 0, Value.slice none 0 0, Value.slice none 0 0, Value.slice none 0 0, Value.slice none 0 0, Value.slice none 0 0, Value.slice none 0 0, Value.slice none 0 0, Value.slice none 0 0, Value.slice none 0 0, Value.slice none 0 0, Value.slice none 0 0, Value.slice none 0 0, Value.slice none 0 0, Value.slice none 0 0, Value.slice none 0 0, Value.slice none 0 0, Value.slice none 0 0, Value.slice none 0 0, Value.slice none 0 0, Value.slice none 0 0, Value.slice none 0 0, Value.slice none 0 0, Value.slice none 0 0, Value.slice none 0 0] : Array Value) = (List.replicate 31 (Value.slice none 0 0)).toArray := rfl
theorem slots_row (w : World) : RowV (w.alloc (.cells #[Value.slice none 0 0, Value.slice none 0 0, Value.slice none 0 0, Value.slice none 0 0, Value.slice none 0 0, Value.slice none 0 0, Value.slice none 0 0, Value.slice none 0 0, Value.slice none 0 0, Value.slice none 0 0, Value.slice none 0 0, Value.slice none 0 0, Value.slice none 0 0, Value.slice none 0 0, Value.slice none 0 0, Value.slice none 0 0, Value.slice none 0 0, Value.slice none 0 0, Value.slice none 0 0, Value.slice none 0 0, Value.slice none 0 0, Value.slice none 0 0, Value.slice none 0 0, Value.slice none 0 0, Value.slice none 0 0, Value.slice none 0 0, Value.slice none 0 0, Value.slice none 0 0, Value.slice none 0 0, Value.slice none 0 0, Value.slice none 0 0] 91)) w.heap.size (List.replicate 31 (Value.slice none 0 0)) := by
  unfold RowV Row
  simp only [List.map_id']
  rw [slots_lit]
  exact blkNew _ _ rfl
theorem slots_there (w : World) (n : Nat) (g : Nat → Nat) : (w.alloc (.cells #[Value.slice none 0 0, Value.slice none 0 0, Value.slice none 0 0, Value.slice none 0 0, Value.slice none 0 0, Value.slice none 0 0, Value.slice none 0 0, Value.slice none 0 0, Value.slice none 0 0, Value.slice none 0 0, Value.slice none 0 0, Value.slice none 0 0, Value.slice none 0 0, Value.slice none 0 0, Value.slice none 0 0, Value.slice none 0 0, Value.slice none 0 0, Value.slice none 0 0, Value.slice none 0 0, Value.slice none 0 0, Value.slice none 0 0, Value.slice none 0 0, Value.slice none 0 0, Value.slice none 0 0, Value.slice none 0 0, Value.slice none 0 0, Value.slice none 0 0, Value.slice none 0 0, Value.slice none 0 0, Value.slice none 0 0, Value.slice none 0 0] 91)).there w.heap.size 0 (cslots n g 31).toArray.size := fun j hj => by
  have hj' : j < 31 := by simpa [cslots_len] using hj
  rw [Nat.zero_add]
  exact ⟨by rw [(slots_row w).cell (by simpa using hj')]; rfl, (slots_row w).fz j⟩
theorem slots_one (n : Nat) (g : Nat → Nat) : (cslots n g 31).toArray.all (·.oneCell') = true := by
  refine all_oneCell_toArray fun v hv => ?_
  unfold cslots part at hv
  obtain ⟨i, _, rfl⟩ := List.mem_map.1 hv
  split <;> rfl
theorem slots_info (n : Nat) (g : Nat → Nat) : (Try.prog.info? 91).map (·.size) = some (cslots n g 31).toArray.size := by
  have : (Try.prog.info? 91).map (·.size) = some 31 := by kernel_rfl
  rw [this]; simp [cslots_len]
theorem slots_below (w : World) (n : Nat) (g : Nat → Nat) : Below w.heap.size w (slotsW w n g) := setCells_below (Nat.le_refl _) _ _ _ ((Below.refl _ _).alloc (Nat.le_refl _) _)
theorem slots_cell (w : World) (n : Nat) (g : Nat → Nat) {i : Nat} (hi : i < 31) : (slotsW w n g).cell? ⟨w.heap.size, i, none⟩ = some (.slice (some ⟨g i, 0, none⟩) n n) := by
  have h := World.rangeAt_setCells_same (w.alloc (.cells #[Value.slice none 0 0, Value.slice none 0 0, Value.slice none 0 0, Value.slice none 0 0, Value.slice none 0 0, Value.slice none 0 0, Value.slice none 0 0, Value.slice none 0 0, Value.slice none 0 0, Value.slice none 0 0, Value.slice none 0 0, Value.slice none 0 0, Value.slice none 0 0, Value.slice none 0 0, Value.slice none 0 0, Value.slice none 0 0, Value.slice none 0 0, Value.slice none 0 0, Value.slice none 0 0, Value.slice none 0 0, Value.slice none 0 0, Value.slice none 0 0, Value.slice none 0 0, Value.slice none 0 0, Value.slice none 0 0, Value.slice none 0 0, Value.slice none 0 0, Value.slice none 0 0, Value.slice none 0 0, Value.slice none 0 0, Value.slice none 0 0] 91)) w.heap.size 0 (cslots n g 31) (by have := slots_there w n g; rwa [List.size_toArray] at this)
  have := h i (.slice (some ⟨g i, 0, none⟩) n n) (by rw [List.getElem?_eq_getElem (by rw [cslots_len]; exact hi), cslots_get hi hi])
  rw [Nat.zero_add] at this
  exact this
theorem slots_size (w : World) (n : Nat) (g : Nat → Nat) : w.heap.size < (slotsW w n g).heap.size := by
  have := slots_cell w n g (i := 0) (by omega)
  exact World.block_lt_of_cell? _ _ this
end Go.Proofs.Ythdbgpdidolmaaa
