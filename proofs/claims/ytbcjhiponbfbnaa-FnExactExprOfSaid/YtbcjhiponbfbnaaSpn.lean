/- Tables of spans: filled, joined, starred. -/
import Derived.StillTailTactics
import Derived.Deep.RegionLaw
import Derived.Deep.MidRow
import Derived.Deep.Upon
import Derived.Lib.LazyBuf
import Derived.Test.YtbcjhiponbfbnaaLre
import Derived.Test.YtbcjhiponbfbnaaPcl
set_option linter.unusedSimpArgs false
set_option linter.unusedVariables false
set_option linter.unusedSectionVars false
namespace Go.Proofs.Ytbcjhiponbfbnaa
open Go.RowKit
set_option maxRecDepth 100000
variable {S T : Nat → Prop}
/-- The cells of a table. -/
def tab9 (f : Nat → Nat → Bool) : Array Value := ((List.range 81).map fun k => Value.bool (f (k / 9) (k % 9))).toArray
theorem tab9_size (f : Nat → Nat → Bool) : (tab9 f).size = 81 := by simp [tab9]
theorem tab9_one (f : Nat → Nat → Bool) : (tab9 f).all (·.oneCell') = true := all_oneCell_toArray fun v hv => by
  obtain ⟨i, _, rfl⟩ := List.mem_map.1 hv; rfl
theorem tab9_at (f : Nat → Nat → Bool) {i j : Nat} (hi : i < 9) (hj : j < 9) : (tab9 f)[i * 9 + j]? = some (.bool (f i j)) := by
  have h : i * 9 + j < 81 := by omega
  unfold tab9
  rw [List.getElem?_toArray, List.getElem?_map, List.getElem?_range h, Option.map_some]
  rw [show (i * 9 + j) / 9 = i by omega, show (i * 9 + j) % 9 = j by omega]
theorem tab9_set {f f' : Nat → Nat → Bool} {i j : Nat} {b : Bool} (hi : i < 9) (hj : j < 9) (h : ∀ x y, f' x y = if x = i ∧ y = j then b else f x y) :
    (tab9 f).setIfInBounds (i * 9 + j) (.bool b) = tab9 f' := by
  apply Array.ext'
  unfold tab9
  rw [Array.toList_setIfInBounds]
  apply List.ext_getElem?
  intro k
  rw [List.getElem?_set]
  simp only [List.length_map, List.length_range, List.getElem?_map]
  by_cases hk : k < 81
  · rw [List.getElem?_range hk, Option.map_some, Option.map_some, h (k / 9) (k % 9)]
    by_cases he : i * 9 + j = k
    · subst he
      rw [if_pos rfl, if_pos hk, if_pos ⟨by omega, by omega⟩]
    · rw [if_neg he, if_neg (fun hc => he (by omega))]
  · rw [List.getElem?_eq_none (l := List.range 81) (by rw [List.length_range]; omega)]
    split
    · omega
    · rfl
theorem tab9_nil : tab9 (fun _ _ => false) = Array.replicate 81 (.bool false) := by
  unfold tab9
  apply Array.ext'
  rw [List.map_const', List.length_range, Array.toList_replicate]
/-- The part of a table that is used. -/
def up (n : Nat) (f : Nat → Nat → Bool) (x y : Nat) : Bool := decide (x ≤ y) && (decide (y ≤ n) && f x y)
theorem up_at {n : Nat} {f : Nat → Nat → Bool} {x y : Nat} (h : x ≤ y) (hy : y ≤ n) : up n f x y = f x y := by simp [up, h, hy]
/-- The table under way: the rows below i, and of row i the places below j. -/
def prt (n : Nat) (f : Nat → Nat → Bool) (i j x y : Nat) : Bool := up n f x y && (decide (x < i) || (decide (x = i) && decide (y < j)))
theorem prt_zero (n : Nat) (f : Nat → Nat → Bool) : prt n f 0 0 = fun _ _ => false := by
  funext x y; simp [prt]
theorem prt_start (n : Nat) (f : Nat → Nat → Bool) (i : Nat) : prt n f i 0 = prt n f i i := by
  funext x y
  unfold prt up
  by_cases h1 : x ≤ y
  · by_cases h2 : x = i
    · subst h2
      have : ¬ y < x := by omega
      simp [this]
    · simp [h2]
  · simp [h1]
theorem prt_step (n : Nat) (f : Nat → Nat → Bool) {i j : Nat} (hij : i ≤ j) (hj : j ≤ n) (x y : Nat) : prt n f i (j + 1) x y = if x = i ∧ y = j then f i j else prt n f i j x y := by
  unfold prt
  split
  · rename_i h
    obtain ⟨rfl, rfl⟩ := h
    rw [up_at hij hj]; simp
  · rename_i h
    by_cases hx : x = i
    · subst hx
      have hy : y ≠ j := fun e => h ⟨rfl, e⟩
      have : decide (y < j + 1) = decide (y < j) := decide_eq_decide.2 ⟨fun h => by omega, fun h => by omega⟩
      simp [this]
    · simp [hx]
theorem prt_end (n : Nat) (f : Nat → Nat → Bool) (i : Nat) : prt n f i (n + 1) = prt n f (i + 1) 0 := by
  funext x y
  unfold prt
  by_cases hy : y ≤ n
  · have h1 : y < n + 1 := by omega
    have h2 : decide (x < i + 1) = (decide (x < i) || decide (x = i)) := by
      rw [← Bool.decide_or]; exact decide_eq_decide.2 ⟨fun h => by omega, fun h => by omega⟩
    simp [h1, h2]
  · simp [up, hy]
theorem prt_all (n : Nat) (f : Nat → Nat → Bool) : prt n f (n + 1) 0 = up n f := by
  funext x y
  unfold prt up
  by_cases h1 : x ≤ y
  · by_cases h2 : y ≤ n
    · have : x < n + 1 := by omega
      simp [this]
    · simp [h2]
  · simp [h1]
/-- A block whose cells are all written anew. -/
theorem heap_setCells {b : Nat} {t : TypeId} {fz : Nat × Nat} : ∀ (vs : List Value) (o : Nat) (w : World) (cs : Array Value), w.heap[b]? = some (.cells cs t fz) → o + vs.length ≤ cs.size →
    ∃ cs', (w.setCells b o vs).heap[b]? = some (.cells cs' t fz) ∧ cs'.size = cs.size ∧ ∀ k, cs'[k]? = if o ≤ k ∧ k < o + vs.length then vs[k - o]? else cs[k]?
  | [], o, w, cs, h, _ => ⟨cs, h, rfl, fun k => by rw [if_neg (by simp)]⟩
  | v :: vs, o, w, cs, h, hl => by
    have h1 := heap_set h o v
    obtain ⟨cs', h2, h3, h4⟩ := heap_setCells vs (o + 1) _ _ h1 (by simp at hl ⊢; omega)
    refine ⟨cs', h2, by rw [h3]; simp, fun k => ?_⟩
    rw [h4 k]
    simp only [List.length_cons] at hl ⊢
    by_cases hk : k = o
    · subst hk
      rw [if_neg (by omega), if_pos ⟨by omega, by omega⟩, Nat.sub_self, List.getElem?_cons_zero, Array.getElem?_setIfInBounds]
      rw [if_pos rfl, if_pos (by omega)]
    · by_cases hk2 : o + 1 ≤ k ∧ k < o + 1 + vs.length
      · rw [if_pos hk2, if_pos ⟨by omega, by omega⟩, show k - o = (k - (o + 1)) + 1 by omega, List.getElem?_cons_succ]
      · rw [if_neg hk2, if_neg (by omega), Array.getElem?_setIfInBounds, if_neg (fun e => hk e.symm)]
theorem heap_setAll {w : World} {b : Nat} {cs : Array Value} {t : TypeId} {fz : Nat × Nat} (h : w.heap[b]? = some (.cells cs t fz)) (vs : Array Value) (hl : vs.size = cs.size) : (w.setCells b 0 vs.toList).heap[b]? = some (.cells vs t fz) := by
  obtain ⟨cs', h2, h3, h4⟩ := heap_setCells vs.toList 0 w cs h (by simp; omega)
  rw [h2]
  congr 2
  apply Array.ext_getElem?
  intro k
  rw [h4 k]
  by_cases hk : k < vs.size
  · rw [if_pos ⟨by omega, by simpa using hk⟩, Nat.sub_zero]; simp
  · rw [if_neg (by simp; omega), Array.getElem?_eq_none (by omega), Array.getElem?_eq_none (by omega)]
theorem there_of {w : World} {b : Nat} {cs : Array Value} {t : TypeId} (h : w.heap[b]? = some (.cells cs t (0, 0))) : w.there b 0 cs.size := fun j hj => by
  refine ⟨?_, by rw [Nat.zero_add]; exact blkFz h j⟩
  rw [Nat.zero_add, cell_of_row w b j _ _ _ h, Array.getElem?_eq_getElem hj]; rfl
theorem bel_setCells {B b : Nat} {a : World} (hb : B ≤ b) : ∀ (vs : List Value) (o : Nat) (w : World), Below B a w → Below B a (w.setCells b o vs)
  | [], _, _, h => h
  | v :: r, o, w, h => bel_setCells hb r (o + 1) _ (h.setCell hb v)
theorem zero9 : Try.zeroCells107 = tab9 (fun _ _ => false) := by rw [tab9_nil]; kernel_rfl
/-- A function on places, as a closure. -/
def SpC (w : World) (n : Nat) (f : Nat → Nat → Bool) (fid : FuncId) (cs : Array Value) : Prop :=
  ∀ (i j : Nat), i ≤ j → j ≤ n → ∀ w', Below w.heap.size w w' → Calls Try.prog fid (#[.int .i64 i, .int .i64 j] ++ cs) w' (fun e w'' => e = .returned (.bool (f i j)) ∧ ∃ nq, w'' = w'.drewN nq)
/-- The call answers a table. -/
def RTb (w : World) (f : Nat → Nat → Bool) (e : Ending) (w' : World) : Prop := e = .returned (.agg (tab9 f)) ∧ Below w.heap.size w w'
set_option maxHeartbeats 2000000 in
theorem filled_c (f : Nat → Nat → Bool) (n : Nat) (hn : n ≤ 8) (fid : FuncId) (cs : Array Value) (hbody : HasBody fid) (w : World) (hcl : SpC w n f fid cs) :
    Calls Try.prog 127 #[.int .i64 n, .func (.func fid) #[] cs] w (RTb w (up n f)) := by
  obtain ⟨W, hW⟩ : ∃ W, W = (w.alloc (.cells (tab9 fun _ _ => false) 107)).alloc (.cells (tab9 fun _ _ => false) 107) := ⟨_, rfl⟩
  have Hb0 : Hid (Below w.heap.size w W) := by rw [hW]; exact ((Below.refl _ _).alloc (Nat.le_refl _) _).alloc (by simp) _
  have k0 : Hid (W.heap[w.heap.size]? = some (.cells (tab9 fun _ _ => false) 107 (0, 0))) := by rw [hW]; exact blkOld (blkNew _ _ rfl)
  have k1 : Hid (W.heap[w.heap.size + 1]? = some (.cells (tab9 (prt n f 0 0)) 107 (0, 0))) := by rw [hW, prt_zero]; exact blkNew _ _ (by simp)
  have HZ := Lib.hid zero9
  have HW : Hid (W = ((w.alloc (.cells Try.zeroCells107 107)).alloc (.cells Try.zeroCells107 107))) := Lib.hid (by rw [HZ.out]; exact hW)
  have HC := Lib.hid hcl
  have HBD := Lib.hid hbody
  clear hW hcl hbody
  go_enter Try.func127, Try.ntmps127
  go_wp2_with fail
  rw [← HW.out]
  clear HW
  go_loopw [6] (fun i wr => ∃ k : Nat, k ≤ n + 1 ∧ i = .int .i64 k ∧ Hid (Below w.heap.size w wr) ∧ Hid (wr.heap[w.heap.size]? = some (.cells (tab9 fun _ _ => false) 107 (0, 0))) ∧ Hid (wr.heap[w.heap.size + 1]? = some (.cells (tab9 (prt n f k 0)) 107 (0, 0)))) (fun i _ => n + 1 - (intOf i).toNat)
  case atStart => exact ⟨0, by omega, rfl, Hb0, k0, k1⟩
  case round =>
    obtain ⟨k, hk, rfl, hb, h0, h1⟩ := hrel
    generalize wr = wq at *
    by_cases hlt : k ≤ n
    · have hkI : (k : Int) ≤ (n : Int) := by omega
      have h1' : Hid (wq.heap[w.heap.size + 1]? = some (.cells (tab9 (prt n f k k)) 107 (0, 0))) := by rw [← prt_start]; exact h1
      clear h1
      go_wp2_with fail
      go_loopw [7] (fun i wr => ∃ j : Nat, k ≤ j ∧ j ≤ n + 1 ∧ i = .int .i64 j ∧ Hid (Below w.heap.size w wr) ∧ Hid (wr.heap[w.heap.size]? = some (.cells (tab9 fun _ _ => false) 107 (0, 0))) ∧ Hid (wr.heap[w.heap.size + 1]? = some (.cells (tab9 (prt n f k j)) 107 (0, 0)))) (fun i _ => n + 1 - (intOf i).toNat)
      case atStart => exact ⟨k, by omega, by omega, rfl, hb, h0, h1'⟩
      case round =>
        obtain ⟨j, hkj, hj, rfl, hb2, h02, h12⟩ := hrel
        generalize wr = wp at *
        by_cases hlt2 : j ≤ n
        · have hjI : (j : Int) ≤ (n : Int) := by omega
          have hk9 : (k : Int) < 9 := by omega
          have hj9 : (j : Int) < 9 := by omega
          have HST := Lib.hid (HC.out k j hkj hlt2 wp.drew (hb2.out.trans ((Below.refl _ _).drew)))
          have cm := cell_of_row wp (w.heap.size + 1) (k * 9 + j) _ _ _ h12.out
          rw [tab9_at _ (by omega) (by omega)] at cm
          have hf := blkFz h12.out (k * 9 + j)
          have cmD : wp.drew.cell? ⟨w.heap.size + 1, k * 9 + j, none⟩ = _ := cm
          have hfD : wp.drew.frozen? ⟨w.heap.size + 1, k * 9 + j, none⟩ = false := hf
          go_wp2_with fail
          go_region_law
            (go_simp
             rw [HBD.out, Oper.upon_enter]
             refine HST.out.mono ?_
             rintro e w' ⟨rfl, nq, rfl⟩
             have hfN : (wp.drew.drewN nq).frozen? ⟨w.heap.size + 1, k * 9 + j, none⟩ = false := hf
             have cmN : (wp.drew.drewN nq).cell? ⟨w.heap.size + 1, k * 9 + j, none⟩ = _ := cm)
          have HSET := Lib.hid (heap_set (w := wp.drewN (1 + nq)) h12.out (k * 9 + j) (.bool (f k j)))
          rw [tab9_set (f' := prt n f k (j + 1)) (by omega) (by omega) (fun x y => prt_step n f hkj hlt2 x y)] at HSET
          have HK0 := Lib.hid (blkSet (w := wp.drewN (1 + nq)) (o := k * 9 + j) (v := .bool (f k j)) h02.out (show w.heap.size ≠ w.heap.size + 1 by omega))
          have HBB := Lib.hid ((hb2.out.trans ((belReflN wp.heap.size wp (1 + nq)).mono hb2.out.size)).setCell (p := ⟨w.heap.size + 1, k * 9 + j, none⟩) (by show w.heap.size ≤ w.heap.size + 1; omega) (.bool (f k j)))
          go_wp2
          go_roundw
          case rel => exact ⟨j + 1, by omega, by omega, by go_num, HBB, HK0, HSET⟩
          case measure => simp [intOf]; omega
        · obtain rfl : j = n + 1 := by omega
          rw [prt_end] at h12
          go_wp2_with fail
          go_roundw
          case rel => exact ⟨k + 1, by omega, by go_num, hb2, h02, h12⟩
          case measure => simp [intOf]; omega
    · obtain rfl : k = n + 1 := by omega
      rw [prt_all] at h1
      have hinf : (Try.prog.info? 107).map (·.size) = some 81 := by kernel_rfl
      have hth := there_of h0.out
      rw [tab9_size] at hth
      have hth2 : wq.there w.heap.size 0 (tab9 (up n f)).size := by rw [tab9_size]; exact hth
      go_wp2_with (first | (refine wpList_load_row rfl 107 (.tmp 5) rfl (w.heap.size + 1) rfl 107 _ _ _ h1.out Try.underlying107 rfl (by rw [hinf, tab9_size]) ?_) | (refine wpList_store_mid rfl 107 (.tmp 4) (.tmp 27) rfl w.heap.size 0 (tab9 (up n f)) rfl rfl hth2 (by rw [hinf, tab9_size]) (tab9_one _) ?_))
      have hfin := heap_setAll h0.out (tab9 (up n f)) (by rw [tab9_size, tab9_size])
      refine bodyPost_ret (v := .agg (tab9 (up n f))) (results_cell_row Try.results127 _ _ w.heap.size _ _ _ _ rfl hfin Try.underlying107 rfl (by rw [hinf, tab9_size])) rfl ⟨rfl, ?_⟩
      exact bel_setCells (Nat.le_refl _) _ _ _ hb.out
open Classical in
/-- Some place in between. -/
noncomputable def jnS (A B : Nat → Nat → Bool) (i j : Nat) : Bool := decide (∃ k, i ≤ k ∧ k ≤ j ∧ A i k = true ∧ B k j = true)
theorem jnS_yes {A B : Nat → Nat → Bool} {i j k : Nat} (h1 : i ≤ k) (h2 : k ≤ j) (h3 : A i k = true) (h4 : B k j = true) : jnS A B i j = true := by unfold jnS; simp only [decide_eq_true_eq]; exact ⟨k, h1, h2, h3, h4⟩
theorem jnS_no {A B : Nat → Nat → Bool} {i j : Nat} (h : ∀ k, i ≤ k → k ≤ j → A i k = true → B k j = false) : jnS A B i j = false := by
  unfold jnS
  simp only [decide_eq_false_iff_not]
  rintro ⟨k, h1, h2, h3, h4⟩
  rw [h k h1 h2 h3] at h4
  cases h4
theorem body_join : HasBody 152 := by
  intro args w
  kernel_rfl
theorem join1_c {P1 P2 : Nat} {A B : Nat → Nat → Bool} {w : World} (h1 : w.heap[P1]? = some (.cells (tab9 A) 107 (0, 0))) (h2 : w.heap[P2]? = some (.cells (tab9 B) 107 (0, 0))) {i j : Nat} (hij : i ≤ j) (hj : j ≤ 8) :
    Calls Try.prog 152 #[.int .i64 i, .int .i64 j, .pointer (some ⟨P1, 0, none⟩), .pointer (some ⟨P2, 0, none⟩)] w (fun e w' => e = .returned (.bool (jnS A B i j)) ∧ w' = w) := by
  have H1 := Lib.hid h1; have H2 := Lib.hid h2; clear h1 h2
  have hi9 : (i : Int) < 9 := by omega
  have hj9 : (j : Int) < 9 := by omega
  go_enter Try.func152, Try.ntmps152
  go_wp2_with fail
  go_loop [7] (fun u => ∃ k : Nat, i ≤ k ∧ k ≤ j + 1 ∧ u = .int .i64 k ∧ Hid (∀ m, i ≤ m → m < k → A i m = true → B m j = false)) (fun u => j + 1 - (intOf u).toNat)
  case atStart => exact ⟨i, by omega, by omega, rfl, fun m h1 h2 => by omega⟩
  case round =>
    obtain ⟨k, hik, hkj, rfl, hr⟩ := hrel
    by_cases hlt : k ≤ j
    · have hkI : (k : Int) ≤ (j : Int) := by omega
      have hk9 : (k : Int) < 9 := by omega
      have ca := cell_of_row w P1 (i * 9 + k) _ _ _ H1.out
      rw [tab9_at _ (by omega) (by omega)] at ca
      have cb := cell_of_row w P2 (k * 9 + j) _ _ _ H2.out
      rw [tab9_at _ (by omega) (by omega)] at cb
      cases hA : A i k
      · rw [hA] at ca
        have HN : Hid (∀ m, i ≤ m → m < k + 1 → A i m = true → B m j = false) := fun m h1 h2 h3 => by
          rcases Nat.lt_succ_iff_lt_or_eq.1 h2 with h | rfl
          · exact hr.out m h1 h h3
          · rw [hA] at h3; cases h3
        clear hA
        go_wp2_with fail
        go_round
        case rel => exact ⟨k + 1, by omega, by omega, by go_num, HN⟩
        case measure => simp [intOf]; omega
      · cases hB : B k j
        · rw [hA] at ca
          rw [hB] at cb
          have HN : Hid (∀ m, i ≤ m → m < k + 1 → A i m = true → B m j = false) := fun m h1 h2 h3 => by
            rcases Nat.lt_succ_iff_lt_or_eq.1 h2 with h | rfl
            · exact hr.out m h1 h h3
            · exact hB
          clear hA hB
          go_wp2_with fail
          go_round
          case rel => exact ⟨k + 1, by omega, by omega, by go_num, HN⟩
          case measure => simp [intOf]; omega
        · have HY := Lib.hid (jnS_yes hik hlt hA hB)
          rw [hA] at ca
          rw [hB] at cb
          clear hA hB
          go_wp2
          go_ret
          exact ⟨by rw [HY.out]; rfl, rfl⟩
    · obtain rfl : k = j + 1 := by omega
      have HY := Lib.hid (jnS_no (A := A) (B := B) (i := i) (j := j) (fun m h1 h2 h3 => hr.out m h1 (by omega) h3))
      go_wp2
      go_ret
      exact ⟨by rw [HY.out]; rfl, rfl⟩
theorem joinedSpans_c (A B : Nat → Nat → Bool) (n : Nat) (hn : n ≤ 8) (w : World) : Calls Try.prog 130 #[.int .i64 n, .agg (tab9 A), .agg (tab9 B)] w (RTb w (up n (jnS A B))) := by
  have HZ := Lib.hid zero9
  obtain ⟨W, hW⟩ : ∃ W, W = ((w.alloc (.cells (tab9 A) 107)).alloc (.cells (tab9 B) 107)).alloc (.cells (tab9 fun _ _ => false) 107) := ⟨_, rfl⟩
  have Hb0 : Hid (Below w.heap.size w W) := by rw [hW]; exact (((Below.refl _ _).alloc (Nat.le_refl _) _).alloc (by simp) _).alloc (by simp; omega) _
  have k0 : Hid (W.heap[w.heap.size]? = some (.cells (tab9 A) 107 (0, 0))) := by rw [hW]; exact blkOld (blkOld (blkNew _ _ rfl))
  have k1 : Hid (W.heap[w.heap.size + 1]? = some (.cells (tab9 B) 107 (0, 0))) := by rw [hW]; exact blkOld (blkNew _ _ (by simp))
  have k2 : Hid (W.heap[w.heap.size + 1 + 1]? = some (.cells (tab9 fun _ _ => false) 107 (0, 0))) := by rw [hW]; exact blkNew _ _ (by simp)
  have HW : Hid (W = ((w.alloc (.cells (tab9 A) 107)).alloc (.cells (tab9 B) 107)).alloc (.cells Try.zeroCells107 107)) := Lib.hid (by rw [HZ.out]; exact hW)
  clear hW
  go_enter Try.func130, Try.ntmps130
  go_wp2_with fail
  rw [← HW.out]
  refine (filled_c (jnS A B) n hn 152 #[.pointer (some ⟨w.heap.size, 0, none⟩), .pointer (some ⟨w.heap.size + 1, 0, none⟩)] body_join W (fun i j hij hj w' hb => (join1_c (blkBel hb k0.out) (blkBel hb k1.out) hij (by omega)).mono fun e w'' h => ⟨h.1, 0, h.2⟩)).mono ?_
  rintro e w1 ⟨rfl, hb⟩
  have h2 := blkBel hb k2.out
  have hth := there_of h2
  rw [tab9_size] at hth
  have hth2 : w1.there (w.heap.size + 1 + 1) 0 (tab9 (up n (jnS A B))).size := by rw [tab9_size]; exact hth
  have hinf : (Try.prog.info? 107).map (·.size) = some 81 := by kernel_rfl
  go_wp2_with (refine wpList_store_mid rfl 107 (.tmp 6) (.tmp 9) rfl (w.heap.size + 1 + 1) 0 (tab9 (up n (jnS A B))) rfl rfl hth2 (by rw [hinf, tab9_size]) (tab9_one _) ?_)
  have hfin := heap_setAll h2 (tab9 (up n (jnS A B))) (by rw [tab9_size, tab9_size])
  refine bodyPost_ret (v := .agg (tab9 (up n (jnS A B)))) (results_cell_row Try.results130 _ _ (w.heap.size + 1 + 1) _ _ _ _ rfl hfin Try.underlying107 rfl (by rw [hinf, tab9_size])) rfl ⟨rfl, ?_⟩
  exact bel_setCells (by omega) _ _ _ (Hb0.out.trans (hb.mono Hb0.out.size))
/-- A table in a block of its own. -/
noncomputable def bxT (w : World) (g : Nat → Nat → Bool) : World := (w.alloc (.cells Try.zeroCells107 107)).setCells w.heap.size 0 (tab9 g).toList
theorem bxT_zero (w : World) : (w.alloc (.cells Try.zeroCells107 107)).heap[w.heap.size]? = some (.cells (tab9 fun _ _ => false) 107 (0, 0)) := by rw [← zero9]; exact blkNew _ _ rfl
theorem bxT_there (w : World) (g : Nat → Nat → Bool) : (w.alloc (.cells Try.zeroCells107 107)).there w.heap.size 0 (tab9 g).size := by
  have := there_of (bxT_zero w)
  rw [tab9_size] at this ⊢; exact this
theorem bxT_blk (w : World) (g : Nat → Nat → Bool) : (bxT w g).heap[w.heap.size]? = some (.cells (tab9 g) 107 (0, 0)) := heap_setAll (bxT_zero w) (tab9 g) (by rw [tab9_size, tab9_size])
theorem bxT_bel (w : World) (g : Nat → Nat → Bool) : Below w.heap.size w (bxT w g) := bel_setCells (Nat.le_refl _) _ _ _ ((Below.refl _ _).alloc (Nat.le_refl _) _)
theorem there9 {w : World} {b : Nat} {f : Nat → Nat → Bool} (h : w.heap[b]? = some (.cells (tab9 f) 107 (0, 0))) (g : Nat → Nat → Bool) : w.there b 0 (tab9 g).size := by
  have := there_of h
  rw [tab9_size] at this ⊢; exact this
theorem set9 {w : World} {b : Nat} {f : Nat → Nat → Bool} (h : w.heap[b]? = some (.cells (tab9 f) 107 (0, 0))) (g : Nat → Nat → Bool) : (w.setCells b 0 (tab9 g).toList).heap[b]? = some (.cells (tab9 g) 107 (0, 0)) := heap_setAll h (tab9 g) (by rw [tab9_size, tab9_size])
theorem set9_other {w : World} {b i : Nat} {o : Obj} (h : w.heap[i]? = some o) (hne : i ≠ b) (g : Nat → Nat → Bool) : (w.setCells b 0 (tab9 g).toList).heap[i]? = some o := by
  rw [World.heap_setCells_other _ _ _ _ (Array.getElem?_eq_some_iff.1 h).1 hne]; exact h
theorem inf9 : (Try.prog.info? 107).map (·.size) = some 81 := by kernel_rfl
theorem inf9s (g : Nat → Nat → Bool) : (Try.prog.info? 107).map (·.size) = some (tab9 g).size := by rw [inf9, tab9_size]
theorem body_eq : HasBody 153 := by
  intro args w
  kernel_rfl
theorem eq1_c (i j : Nat) (w : World) : Calls Try.prog 153 #[.int .i64 i, .int .i64 j] w (fun e w' => e = .returned (.bool (decide (i = j))) ∧ w' = w) := by
  go_enter Try.func153, Try.ntmps153
  by_cases h : i = j
  · subst h
    go_wp2
    go_ret
    exact ⟨by simp, rfl⟩
  · have hne : (i : Int) ≠ (j : Int) := by omega
    go_wp2
    go_ret
    exact ⟨by simp [h]; omega, rfl⟩
theorem body_or : HasBody 154 := by
  intro args w
  kernel_rfl
theorem or1_c {P1 P2 : Nat} {A B : Nat → Nat → Bool} {w : World} (h1 : w.heap[P1]? = some (.cells (tab9 A) 107 (0, 0))) (h2 : w.heap[P2]? = some (.cells (tab9 B) 107 (0, 0))) {i j : Nat} (hij : i ≤ j) (hj : j ≤ 8) :
    Calls Try.prog 154 #[.int .i64 i, .int .i64 j, .pointer (some ⟨P1, 0, none⟩), .pointer (some ⟨P2, 0, none⟩)] w (fun e w' => e = .returned (.bool (A i j || B i j)) ∧ w' = w) := by
  have hi9 : (i : Int) < 9 := by omega
  have hj9 : (j : Int) < 9 := by omega
  have ca := cell_of_row w P1 (i * 9 + j) _ _ _ h1
  rw [tab9_at _ (by omega) (by omega)] at ca
  have cb := cell_of_row w P2 (i * 9 + j) _ _ _ h2
  rw [tab9_at _ (by omega) (by omega)] at cb
  clear h1 h2
  generalize A i j = x at *
  generalize B i j = y at *
  go_enter Try.func154, Try.ntmps154
  cases x
  · go_wp2
    go_ret
    exact ⟨by simp, rfl⟩
  · go_wp2
    go_ret
    exact ⟨by simp, rfl⟩
/-- The tables of a star, round by round. -/
noncomputable def stT (n : Nat) (A : Nat → Nat → Bool) : Nat → Nat → Nat → Bool
  | 0 => up n fun i j => decide (i = j)
  | r + 1 => up n fun i j => stT n A r i j || up n (jnS (stT n A r) A) i j
set_option maxHeartbeats 2000000 in
theorem starSpans_c (A : Nat → Nat → Bool) (n : Nat) (hn : n ≤ 8) (w : World) : Calls Try.prog 134 #[.int .i64 n, .agg (tab9 A)] w (RTb w (stT n A n)) := by
  have HZ := Lib.hid zero9
  obtain ⟨W, hW⟩ : ∃ W, W = (w.alloc (.cells (tab9 A) 107)).alloc (.cells (tab9 fun _ _ => false) 107) := ⟨_, rfl⟩
  have Hb0 : Hid (Below w.heap.size w W) := by rw [hW]; exact ((Below.refl _ _).alloc (Nat.le_refl _) _).alloc (by simp) _
  have k0 : Hid (W.heap[w.heap.size]? = some (.cells (tab9 A) 107 (0, 0))) := by rw [hW]; exact blkOld (blkNew _ _ rfl)
  have k1 : Hid (W.heap[w.heap.size + 1]? = some (.cells (tab9 fun _ _ => false) 107 (0, 0))) := by rw [hW]; exact blkNew _ _ (by simp)
  have HW : Hid (W = (w.alloc (.cells (tab9 A) 107)).alloc (.cells Try.zeroCells107 107)) := Lib.hid (by rw [HZ.out]; exact hW)
  clear hW
  go_enter Try.func134, Try.ntmps134
  go_wp2_with fail
  rw [← HW.out]
  clear HW
  refine (filled_c (fun i j => decide (i = j)) n hn 153 #[] body_eq W (fun i j hij hj w' hb => (eq1_c i j w').mono fun e w'' h => ⟨h.1, 0, h.2⟩)).mono ?_
  rintro e w1 ⟨rfl, hb⟩
  obtain ⟨B, hB⟩ : ∃ B, B = w1.heap.size := ⟨_, rfl⟩
  have HB1 := Lib.hid (Hb0.out.trans (hb.mono Hb0.out.size))
  have k0 := Lib.hid (blkBel hb k0.out)
  have k1 := Lib.hid (blkBel hb k1.out)
  have hz1 : w.heap.size + 1 < B := by rw [hB]; exact (Array.getElem?_eq_some_iff.1 k1.out).1
  have HT1 := Lib.hid (bxT_there w1 (up n fun i j => decide (i = j)))
  obtain ⟨w2, hw2⟩ : ∃ z, z = bxT w1 (up n fun i j => decide (i = j)) := ⟨_, rfl⟩
  have hb2 : Below w1.heap.size w1 w2 := by rw [hw2]; exact bxT_bel _ _
  have HB2 := Lib.hid (HB1.out.trans (hb2.mono HB1.out.size))
  have k0 := Lib.hid (blkBel hb2 k0.out)
  have k1 := Lib.hid (blkBel hb2 k1.out)
  have k5 : Hid (w2.heap[B]? = some (.cells (tab9 (stT n A 0)) 107 (0, 0))) := Lib.hid (by rw [hw2, hB]; exact bxT_blk _ _)
  have HBq := Lib.hid hB
  have HW2 := Lib.hid hw2
  clear hb hB hb2 hw2
  go_wp2_with (refine wpList_store_mid rfl 107 (.tmp 5) (.tmp 9) rfl w1.heap.size 0 (tab9 (up n fun i j => decide (i = j))) rfl rfl HT1.out (inf9s _) (tab9_one _) ?_; change wpList _ _ _ _ _ (bxT w1 (up n fun i j => decide (i = j))); rw [← HW2.out])
  rw [← HBq.out]
  clear HT1 HW2 HB1
  go_loopw [11] (fun i wr => ∃ r : Nat, r ≤ n ∧ i = .int .i64 r ∧ Hid (Below w.heap.size w wr) ∧ Hid (wr.heap[w.heap.size]? = some (.cells (tab9 A) 107 (0, 0))) ∧ Hid (wr.heap[w.heap.size + 1]? = some (.cells (tab9 fun _ _ => false) 107 (0, 0))) ∧ Hid (wr.heap[B]? = some (.cells (tab9 (stT n A r)) 107 (0, 0)))) (fun i _ => n - (intOf i).toNat)
  case atStart => exact ⟨0, by omega, rfl, HB2, k0, k1, k5⟩
  case round =>
    clear k0 k1 k5 HB2
    obtain ⟨r, hr, rfl, hb, k0, k1, k5⟩ := hrel
    generalize wr = wq at *
    by_cases hlt : r < n
    · have hrI : (r : Int) < (n : Int) := by omega
      obtain ⟨F, hF⟩ : ∃ F, F = stT n A r := ⟨_, rfl⟩
      rw [← hF] at k5
      have HF : Hid (stT n A (r + 1) = up n fun i j => F i j || up n (jnS F A) i j) := Lib.hid (by rw [hF]; rfl)
      clear hF
      obtain ⟨G, hG⟩ : ∃ G, G = up n (jnS F A) := ⟨_, rfl⟩
      rw [← hG] at HF
      have HG := Lib.hid hG; clear hG
      go_wp2_with (first | (refine wpList_load_row rfl 107 (.tmp 5) rfl B rfl 107 _ _ _ k5.out Try.underlying107 rfl (inf9s _) ?_) | (refine wpList_load_row rfl 107 (.tmp 3) rfl w.heap.size rfl 107 _ _ _ k0.out Try.underlying107 rfl (inf9s _) ?_))
      refine (joinedSpans_c F A n hn wq).mono ?_
      rintro e w3 ⟨rfl, hb3⟩
      rw [← HG.out]
      have HB3 := Lib.hid (hb.out.trans (hb3.mono hb.out.size))
      have k03 := Lib.hid (blkBel hb3 k0.out)
      have k13 := Lib.hid (blkBel hb3 k1.out)
      have k53 := Lib.hid (blkBel hb3 k5.out)
      clear k0 k1 k5 hb hb3
      have hz3 : B < w3.heap.size := (Array.getElem?_eq_some_iff.1 k53.out).1
      have HT3 := Lib.hid (bxT_there w3 G)
      obtain ⟨w4, hw4⟩ : ∃ z, z = bxT w3 G := ⟨_, rfl⟩
      have hb4 : Below w3.heap.size w3 w4 := by rw [hw4]; exact bxT_bel _ _
      have HB4 := Lib.hid (HB3.out.trans (hb4.mono HB3.out.size))
      have k04 := Lib.hid (blkBel hb4 k03.out)
      have k14 := Lib.hid (blkBel hb4 k13.out)
      have k54 := Lib.hid (blkBel hb4 k53.out)
      have k64 : Hid (w4.heap[w3.heap.size]? = some (.cells (tab9 G) 107 (0, 0))) := Lib.hid (by rw [hw4]; exact bxT_blk _ _)
      have HW4 := Lib.hid hw4
      clear hw4 hb4 k03 k13 k53 HB3
      have hz4 : w3.heap.size < w4.heap.size := (Array.getElem?_eq_some_iff.1 k64.out).1
      have HT4 := Lib.hid (bxT_there w4 F)
      obtain ⟨w5, hw5⟩ : ∃ z, z = bxT w4 F := ⟨_, rfl⟩
      have hb5 : Below w4.heap.size w4 w5 := by rw [hw5]; exact bxT_bel _ _
      have HB5 := Lib.hid (HB4.out.trans (hb5.mono HB4.out.size))
      have k05 := Lib.hid (blkBel hb5 k04.out)
      have k15 := Lib.hid (blkBel hb5 k14.out)
      have k55 := Lib.hid (blkBel hb5 k54.out)
      have k65 := Lib.hid (blkBel hb5 k64.out)
      have k75 : Hid (w5.heap[w4.heap.size]? = some (.cells (tab9 F) 107 (0, 0))) := Lib.hid (by rw [hw5]; exact bxT_blk _ _)
      have HW5 := Lib.hid hw5
      clear hw5 hb5 k04 k14 HB4
      go_wp2_with (first | (refine wpList_store_mid rfl 107 (.tmp 6) (.tmp 16) rfl w3.heap.size 0 (tab9 G) rfl rfl HT3.out (inf9s _) (tab9_one _) ?_; change wpList _ _ _ _ _ (bxT w3 G); rw [← HW4.out]) | (refine wpList_load_row rfl 107 (.tmp 5) rfl B rfl 107 _ _ _ k54.out Try.underlying107 rfl (inf9s _) ?_) | (refine wpList_store_mid rfl 107 (.tmp 7) (.tmp 17) rfl w4.heap.size 0 (tab9 F) rfl rfl HT4.out (inf9s _) (tab9_one _) ?_; change wpList _ _ _ _ _ (bxT w4 F); rw [← HW5.out]))
      refine (filled_c (fun i j => F i j || G i j) n hn 154 #[.pointer (some ⟨w4.heap.size, 0, none⟩), .pointer (some ⟨w3.heap.size, 0, none⟩)] body_or w5 (fun i j hij hj w' hb => (or1_c (blkBel hb k75.out) (blkBel hb k65.out) hij (by omega)).mono fun e w'' h => ⟨h.1, 0, h.2⟩)).mono ?_
      rintro e w6 ⟨rfl, hb6⟩
      rw [← HF.out]
      have HB6 := Lib.hid (HB5.out.trans (hb6.mono HB5.out.size))
      have k06 := Lib.hid (blkBel hb6 k05.out)
      have k16 := Lib.hid (blkBel hb6 k15.out)
      have k56 := Lib.hid (blkBel hb6 k55.out)
      have HTh := Lib.hid (there9 k56.out (stT n A (r + 1)))
      obtain ⟨w7, hw7⟩ : ∃ z, z = w6.setCells B 0 (tab9 (stT n A (r + 1))).toList := ⟨_, rfl⟩
      have HB7 : Hid (Below w.heap.size w w7) := Lib.hid (by rw [hw7]; exact bel_setCells (by omega) _ _ _ HB6.out)
      have k07 : Hid (w7.heap[w.heap.size]? = some (.cells (tab9 A) 107 (0, 0))) := Lib.hid (by rw [hw7]; exact set9_other k06.out (by omega) _)
      have k17 : Hid (w7.heap[w.heap.size + 1]? = some (.cells (tab9 fun _ _ => false) 107 (0, 0))) := Lib.hid (by rw [hw7]; exact set9_other k16.out (by omega) _)
      have k57 : Hid (w7.heap[B]? = some (.cells (tab9 (stT n A (r + 1))) 107 (0, 0))) := Lib.hid (by rw [hw7]; exact set9 k56.out _)
      have HW7 := Lib.hid hw7
      clear hw7 hb6
      go_wp2_with (refine wpList_store_mid rfl 107 (.tmp 5) (.tmp 20) rfl B 0 (tab9 (stT n A (r + 1))) rfl rfl HTh.out (inf9s _) (tab9_one _) ?_; rw [← HW7.out])
      go_roundw
      case rel => exact ⟨r + 1, by omega, by go_num, HB7, k07, k17, k57⟩
      case measure => simp [intOf]; omega
    · obtain rfl : r = n := by omega
      have HTh := Lib.hid (there9 k1.out (stT r A r))
      go_wp2_with (first | (refine wpList_load_row rfl 107 (.tmp 5) rfl B rfl 107 _ _ _ k5.out Try.underlying107 rfl (inf9s _) ?_) | (refine wpList_store_mid rfl 107 (.tmp 4) (.tmp 22) rfl (w.heap.size + 1) 0 (tab9 (stT r A r)) rfl rfl HTh.out (inf9s _) (tab9_one _) ?_))
      have hfin := set9 k1.out (stT r A r)
      refine bodyPost_ret (v := .agg (tab9 (stT r A r))) (results_cell_row Try.results134 _ _ (w.heap.size + 1) _ _ _ _ rfl hfin Try.underlying107 rfl (inf9s _)) rfl ⟨rfl, ?_⟩
      exact bel_setCells (by omega) _ _ _ hb.out
end Go.Proofs.Ytbcjhiponbfbnaa
