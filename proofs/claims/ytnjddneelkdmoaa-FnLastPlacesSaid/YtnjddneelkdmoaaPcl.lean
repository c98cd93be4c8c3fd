/- The closures of PositionNfa: the state of a letter, a move marked; the table of marks. -/
import Derived.StillTailTactics
import Derived.Test.YtnjddneelkdmoaaFol
set_option linter.unusedSimpArgs false
set_option linter.unusedVariables false
set_option linter.unusedSectionVars false
namespace Go.Proofs.Ytnjddneelkdmoaa
open Go.RowKit
set_option maxRecDepth 100000
variable {S T : Nat → Prop}
/-- The table's cells. -/
def tabA (F : List Int) (L : List (Int × Int)) (pl : List Int) : Array Value := ((List.range 1600).map fun k => Value.bool (ttM F L pl (k / 40) (k % 40))).toArray
theorem tabA_nil (pl : List Int) : tabA [] [] pl = Array.replicate 1600 (.bool false) := by
  unfold tabA
  simp only [ttM_nil]
  apply Array.ext'
  rw [List.map_const', List.length_range, Array.toList_replicate]
theorem tabA_at (F : List Int) (L : List (Int × Int)) (pl : List Int) {i j : Nat} (hi : i < 40) (hj : j < 40) : (tabA F L pl)[i * 40 + j]? = some (.bool (ttM F L pl i j)) := by
  have h : i * 40 + j < 1600 := by omega
  unfold tabA
  rw [List.getElem?_toArray, List.getElem?_map, List.getElem?_range h, Option.map_some]
  rw [show (i * 40 + j) / 40 = i by omega, show (i * 40 + j) % 40 = j by omega]
theorem tabA_set {F F' : List Int} {L L' : List (Int × Int)} {pl : List Int} {i j : Nat} (hi : i < 40) (hj : j < 40) (h : ∀ x y, ttM F' L' pl x y = if x = i ∧ y = j then true else ttM F L pl x y) :
    (tabA F L pl).setIfInBounds (i * 40 + j) (.bool true) = tabA F' L' pl := by
  apply Array.ext'
  unfold tabA
  rw [Array.toList_setIfInBounds]
  apply List.ext_getElem?
  intro k
  rw [List.getElem?_set]
  simp only [List.length_map, List.length_range, List.getElem?_map]
  by_cases hk : k < 1600
  · rw [List.getElem?_range hk, Option.map_some, Option.map_some, h (k / 40) (k % 40)]
    by_cases he : i * 40 + j = k
    · subst he
      rw [if_pos rfl, if_pos hk, if_pos ⟨by omega, by omega⟩]
    · rw [if_neg he, if_neg (fun hc => he (by omega))]
  · rw [List.getElem?_eq_none (l := List.range 1600) (by rw [List.length_range]; omega)]
    split
    · omega
    · rfl
set_option maxHeartbeats 1000000 in
theorem idxInt_c (v : Value) (xs : List Int) (x : Int) (w : World) (h : Ints S w v xs) (hx : x ∈ xs) (hu : xs.Pairwise (· < ·)) :
    Calls Try.prog 114 #[v, .int .i64 x] w (fun e w' => e = .returned (.int .i64 ((xs.idxOf x : Nat) : Int)) ∧ w = w') := by
  obtain ⟨a, cap, rfl, hn⟩ := h.shape
  have H := Lib.hid h; clear h
  have HX := Lib.hid hx; have HU := Lib.hid hu; clear hx hu
  go_enter Try.func114, Try.ntmps114
  go_wp2
  go_loop [8] (fun i => ∃ k : Nat, k ≤ xs.length ∧ i = .int .i64 k ∧ Hid (∀ j (hj : j < xs.length), j < k → xs[j] ≠ x)) (fun i => xs.length - (intOf i).toNat)
  case atStart => exact ⟨0, by omega, rfl, fun j _ hj => absurd hj (Nat.not_lt_zero _)⟩
  case round =>
    obtain ⟨k, hk, rfl, hr⟩ := hrel
    by_cases hlt : k < xs.length
    · obtain ⟨b, off, rfl, hc⟩ := H.out.at hlt
      have hkI : (k : Int) < (xs.length : Int) := by omega
      by_cases hy : x = xs[k]
      · have hid : Hid (xs.idxOf x = k) := Lib.hid (by
          have h := idx_getD HU.out hlt
          rw [List.getD_eq_getElem?_getD, List.getElem?_eq_getElem hlt, Option.getD_some, ← hy] at h; exact h)
        rw [← hy] at hc
        clear hy
        go_wp2
        go_ret
        exact ⟨by rw [hid.out]; rfl, rfl⟩
      · have hne : (x == xs[k]) = false := by simpa using hy
        have Hy := Lib.hid hy; clear hy
        go_wp2
        go_round
        case rel => exact ⟨k + 1, by omega, by go_num, fun j hj hjk => by
          rcases Nat.lt_succ_iff_lt_or_eq.1 hjk with h | rfl
          · exact hr.out j hj h
          · exact fun e => Hy.out e.symm⟩
        case measure => simp [intOf]; omega
    · exfalso
      obtain ⟨j, hj, e⟩ := List.getElem_of_mem HX.out
      exact hr.out j hj (by omega) e
theorem body_state : HasBody 113 := by
  intro args w
  kernel_rfl
theorem state_c {P4 : Nat} {plv : Value} {pl : List Int} {w : World} (h4 : w.heap[P4]? = some (.cells #[plv] 34 (0, 0))) (hp : Ints S w plv pl) (hu : pl.Pairwise (· < ·)) (hl : pl.length ≤ 60) (x : Int) (hx : x ∈ pl) :
    Calls Try.prog 113 #[.int .i64 x, .pointer (some ⟨P4, 0, none⟩)] w (fun e w' => e = .returned (.int .i64 (((pl.idxOf x : Nat) : Int) + 1)) ∧ w' = w) := by
  obtain ⟨a, cap, rfl, hn⟩ := hp.shape
  have c4 := cell_of_row w P4 0 _ _ _ h4
  simp only [List.getElem?_toArray, List.getElem?_cons_zero] at c4
  have hlt := List.idxOf_lt_length_of_mem hx
  have hwr : IntKind.i64.wrap (((pl.idxOf x : Nat) : Int) + 1) = ((pl.idxOf x : Nat) : Int) + 1 := IntWalk.i64_in _ (by omega)
  have HX := Lib.hid hx; have HU := Lib.hid hu; have HP := Lib.hid hp; clear hx hu hp h4
  go_enter Try.func113, Try.ntmps113
  go_wp2_with fail
  refine (idxInt_c _ pl x w HP.out HX.out HU.out).mono ?_
  rintro e w' ⟨rfl, rfl⟩
  go_wp2
  go_ret
  exact ⟨rfl, rfl⟩
theorem body_mark : HasBody 116 := by
  intro args w
  kernel_rfl
/-- A move marked. -/
theorem mark_c {P4 P5 M : Nat} {plv : Value} {pl F : List Int} {L : List (Int × Int)} {w : World} (h4 : w.heap[P4]? = some (.cells #[plv] 34 (0, 0)))
    (h5 : w.heap[P5]? = some (.cells #[.func (.func 113) #[] #[.pointer (some ⟨P4, 0, none⟩)]] 76 (0, 0)))
    (hm : w.heap[M]? = some (.cells (tabA F L pl) 110 (0, 0)))
    (hp : Ints S w plv pl) (hu : pl.Pairwise (· < ·)) (hl : pl.length < 40) (a b : Int) (ha : a ∈ pl) (hb : b ∈ pl) :
    Calls Try.prog 116 #[.int .i64 a, .int .i64 b, .pointer (some ⟨M, 0, none⟩), .pointer (some ⟨P5, 0, none⟩)] w (fun e w' => e = .returned (.tuple #[]) ∧ Hid (Fr (· = M) w w') ∧ Hid (w'.heap[M]? = some (.cells (tabA F (L ++ [(a, b)]) pl) 110 (0, 0)))) := by
  have HA := Lib.hid (fun (x : Int) (hx : x ∈ pl) => state_c (w := w.drew) (S := S) h4 (hp.stay (kpB (Below.refl _ _).drew)) hu (by omega) x hx)
  have c5 := cell_of_row w P5 0 _ _ _ h5
  simp only [List.getElem?_toArray, List.getElem?_cons_zero] at c5
  obtain ⟨i, hi⟩ : ∃ i, i = pl.idxOf a := ⟨_, rfl⟩
  obtain ⟨j, hj⟩ : ∃ j, j = pl.idxOf b := ⟨_, rfl⟩
  have hi40 : i + 1 < 40 := by have := List.idxOf_lt_length_of_mem ha; omega
  have hj40 : j + 1 < 40 := by have := List.idxOf_lt_length_of_mem hb; omega
  have HCA := Lib.hid (HA.out a ha)
  have HCB := Lib.hid (HA.out b hb)
  rw [← hi] at HCA
  rw [← hj] at HCB
  have cm := cell_of_row w M ((i + 1) * 40 + (j + 1)) _ _ _ hm
  rw [tabA_at F L pl hi40 hj40] at cm
  have hf := blkFz hm ((i + 1) * 40 + (j + 1))
  have HFR : Hid (Fr (· = M) w (w.setCell ⟨M, (i + 1) * 40 + (j + 1), none⟩ (.bool true))) := Fr.grown (grownSet _ _ _ _) (fun b e => by injection e with e; exact e.symm)
  have HS := Lib.hid (heap_set hm ((i + 1) * 40 + (j + 1)) (.bool true))
  rw [tabA_set (F' := F) (L' := L ++ [(a, b)]) hi40 hj40 (fun x y => by rw [ttM_pair hu ha hb, ← hi, ← hj])] at HS
  clear HA hu hp h4 h5 hm ha hb hi hj
  go_enter Try.func116, Try.ntmps116
  have hi0 : (0 : Int) ≤ (i : Int) + 1 := by omega
  have hi1 : (i : Int) + 1 < 40 := by omega
  have hj0 : (0 : Int) ≤ (j : Int) + 1 := by omega
  have hj1 : (j : Int) + 1 < 40 := by omega
  have c5D : w.drew.cell? ⟨P5, 0, none⟩ = _ := c5
  have cmD : w.drew.cell? ⟨M, (i + 1) * 40 + (j + 1), none⟩ = _ := cm
  go_wp2_with fail
  refine wp_region_still_tail 8 (by kernel_rfl) (by kernel_rfl) ?_
  simp only [List.take_succ_cons, List.take_zero, List.drop_succ_cons, List.drop_zero]
  still_step
  still_step
  still_call HCA.out
  still_step
  still_step
  still_call HCB.out
  repeat still_step
  refine wpStill_nil ?_
  change wpList _ _ _ _ _ w.drew
  have hfD : w.drew.frozen? ⟨M, (i + 1) * 40 + (j + 1), none⟩ = false := hf
  go_wp2
  refine bodyPost_end (v := .tuple #[]) (by simp [results, Try.results116, go_sem]) rfl ⟨rfl, Lib.hid (HFR.out.trans (Fr.bel (Below.refl _ _).drew)), HS⟩
end Go.Proofs.Ytnjddneelkdmoaa
