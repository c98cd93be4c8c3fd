/- Expressions drawn: at most 15 parts, at most 60 steps of the reader.
Expressions drawn, perhaps spoilt ones. -/
import Derived.Deep.RegionHeld3
import Derived.Test.YtbcjhiponbfbnaaGE
set_option linter.unusedSimpArgs false
set_option linter.unusedVariables false
set_option linter.unusedSectionVars false
namespace Go.Proofs.Ytbcjhiponbfbnaa
open Go.RowKit
set_option maxRecDepth 100000
variable {S T : Nat → Prop}
/-- An expression of at most m parts was drawn in at most c steps. -/
def DrP (rb p c m : Nat) (w : World) (e : Ending) (w' : World) : Prop := ∃ (v : Value) (xs : List (Int × Int)) (p' : Nat), e = .returned v ∧ (1 ≤ xs.length ∧ xs.length ≤ m) ∧ p' ≤ p + c ∧ Dr rb w w' ∧ Hid (Rdx w' rb p') ∧ Hid (Own2 w' w.heap.size 67 v xs)
theorem own2One (w : World) (x y : Int) {base : Nat} (hb : base ≤ w.heap.size) : Own2 (w.alloc (.cells #[.int .i64 x, .int .i64 y] 67)) base 67 (.slice (some ⟨w.heap.size, 0, none⟩) 1 1) [(x, y)] :=
  ⟨rfl, .inr ⟨w.heap.size, 1, _, rfl, hb, blkNew _ _ rfl, Nat.le_refl _, by unfold maxLen; omega, by simp, by simp [cells2]⟩⟩
theorem own2App {w : World} {base n m : Nat} {e : TypeId} {v : Value} {xs ys : List (Int × Int)} (h : w.ownsRow base e 2 v (n + m) (cells2 xs ++ cells2 ys)) (hn : n = xs.length := by rfl) (hm : m = ys.length := by rfl) : Own2 w base e v (xs ++ ys) := by
  subst hn; subst hm
  unfold Own2
  rw [List.length_append, cells2_app]
  exact h
theorem DrP.one {rb p p' c m : Nat} {w w' : World} {x y : Int} (hd : Dr rb w w') (hr : Rdx w' rb p') (hp : p' ≤ p + c) (hm : 1 ≤ m) : DrP rb p c m w (.returned (.slice (some ⟨w'.heap.size, 0, none⟩) 1 1)) (w'.alloc (.cells #[.int .i64 x, .int .i64 y] 67)) :=
  ⟨_, [(x, y)], p', rfl, ⟨Nat.le_refl 1, hm⟩, hp, hd.trans (Dr.below ((Below.refl _ _).alloc (Nat.le_refl _) _)), Lib.hid (hr.stay ((Below.refl _ _).alloc (Nat.le_refl _) _)), Lib.hid (own2One w' x y hd.size)⟩
set_option maxHeartbeats 2000000 in
theorem l20Make0_c (rb p : Nat) (plain : Bool) (w : World) (h : Rdx w rb p) (hp : p ≤ 890000) : Calls Try.prog 80 #[.pointer (some ⟨rb, 0, none⟩), .int .i64 0, .bool plain] w (DrP rb p 3 1 w) := by
  have H := Lib.hid h; clear h
  go_enter Try.func80, Try.ntmps80
  go_wp2_with fail
  refine (pick_x rb p _ w H.out (by omega)).mono ?_
  rintro e w2 ⟨r, rfl, hr0, hr1, hd2, hr2, hz2⟩
  have hD2 := Lib.hid (hd2)
  clear hd2 hz2
  have hlt2 := hr2.out.lt
  have hr9 : r ≤ 8 := by omega
  clear hr1
  by_cases h0 : r = 0
  · subst h0
    go_wp2
    go_ret
    exact DrP.one hD2.out hr2.out (by omega) (by omega)
  · have h0' : (r == 0) = false := by simpa using h0
    by_cases h1 : r = 1
    · subst h1
      clear h0 h0'
      go_wp2_with fail
      refine (pick_x rb _ _ _ (hr2.out.stay ((Below.refl _ _).alloc (Nat.le_refl _) _)) (by omega)).mono ?_
      rintro e w3 ⟨q, rfl, hq0, hq1, hd3, hr3, hz3⟩
      have hcell : ∀ (j : Nat) (v : Value), #[Value.int .i64 1, .int .i64 2, .int .i64 3][j]? = some v → w3.cell? ⟨w2.heap.size, j, none⟩ = some v :=
        fun j v h => hd3.kp _ _ (by show w2.heap.size ≠ rb; omega) (by rw [World.cell?_alloc_mark]; exact h)
      have hc0 := hcell 0 _ rfl
      have hc1 := hcell 1 _ rfl
      have hc2 := hcell 2 _ rfl
      clear hcell
      have hD3 := Lib.hid ((hD2.out.trans (Dr.below ((Below.refl _ _).alloc (Nat.le_refl _) _))).trans hd3)
      clear hd3 hD2 hz3
      rcases (by omega : q = 0 ∨ q = 1 ∨ q = 2) with rfl | rfl | rfl
      all_goals
        clear hq1
        go_wp2
        go_ret
        exact DrP.one hD3.out hr3.out (by omega) (by omega)
    · have h1' : (r == 1) = false := by simpa using h1
      go_wp2_with fail
      refine (pick_x rb _ _ _ hr2.out (by omega)).mono ?_
      rintro e w3 ⟨q, rfl, hq0, hq1, hd3, hr3, hz3⟩
      have hD3 := Lib.hid (hD2.out.trans hd3)
      clear hd3 hD2 hz3
      go_wp2
      go_ret
      exact DrP.one hD3.out hr3.out (by omega) (by omega)
set_option maxHeartbeats 8000000 in
theorem l20Make1_c (d rb p P M B : Nat) (plain : Bool) (w : World) (h : Rdx w rb p) (hB : B ≤ 890000) (hp : p ≤ B) (hd9 : d ≤ 100) (hP : P ≤ 1000) (hM : 1 ≤ M ∧ M ≤ 1000)
    (IH : ∀ (p : Nat) (w : World), Rdx w rb p → p ≤ B + 1010 → Calls Try.prog 80 #[.pointer (some ⟨rb, 0, none⟩), .int .i64 d, .bool plain] w (DrP rb p P M w)) :
    Calls Try.prog 80 #[.pointer (some ⟨rb, 0, none⟩), .int .i64 ((d : Int) + 1), .bool plain] w (DrP rb p (2 * P + 4) (2 * M + 1) w) := by
  have H := Lib.hid h; clear h
  have hdI : ((d : Int) + 1 == 0) = false := by simp; omega
  have hdp : ¬ ((d : Int) + 1 = 0) := by omega
  have hMl := hM.1
  have hMu := hM.2
  clear hM
  have hrbw := H.out.lt
  go_enter Try.func80, Try.ntmps80
  go_wp2_with fail
  refine (pick_x rb p _ w H.out (by omega)).mono ?_
  rintro e w1 ⟨r1, rfl, hr10, hr11, hd1, hr1, hz1⟩
  have Hz1 := Lib.hid hz1; clear hz1
  by_cases hz : r1 = 0
  · subst hz
    clear hr10 hr11
    go_wp2_with fail
    refine (pick_x rb (p + 1) _ w1 hr1.out (by omega)).mono ?_
    rintro e w2 ⟨r, rfl, hr0, hr1, hd2, hr2, hz2⟩
    have hD2 := Lib.hid (hd1.trans (hd2))
    clear hd2 hz2
    have hlt2 := hr2.out.lt
    have hr9 : r ≤ 8 := by omega
    clear hr1
    by_cases h0 : r = 0
    · subst h0
      go_wp2
      go_ret
      exact DrP.one hD2.out hr2.out (by omega) (by omega)
    · have h0' : (r == 0) = false := by simpa using h0
      by_cases h1 : r = 1
      · subst h1
        clear h0 h0'
        go_wp2_with fail
        refine (pick_x rb _ _ _ (hr2.out.stay ((Below.refl _ _).alloc (Nat.le_refl _) _)) (by omega)).mono ?_
        rintro e w3 ⟨q, rfl, hq0, hq1, hd3, hr3, hz3⟩
        have hcell : ∀ (j : Nat) (v : Value), #[Value.int .i64 1, .int .i64 2, .int .i64 3][j]? = some v → w3.cell? ⟨w2.heap.size, j, none⟩ = some v :=
          fun j v h => hd3.kp _ _ (by show w2.heap.size ≠ rb; omega) (by rw [World.cell?_alloc_mark]; exact h)
        have hc0 := hcell 0 _ rfl
        have hc1 := hcell 1 _ rfl
        have hc2 := hcell 2 _ rfl
        clear hcell
        have hD3 := Lib.hid ((hD2.out.trans (Dr.below ((Below.refl _ _).alloc (Nat.le_refl _) _))).trans hd3)
        clear hd3 hD2 hz3
        rcases (by omega : q = 0 ∨ q = 1 ∨ q = 2) with rfl | rfl | rfl
        all_goals
          clear hq1
          go_wp2
          go_ret
          exact DrP.one hD3.out hr3.out (by omega) (by omega)
      · have h1' : (r == 1) = false := by simpa using h1
        go_wp2_with fail
        refine (pick_x rb _ _ _ hr2.out (by omega)).mono ?_
        rintro e w3 ⟨q, rfl, hq0, hq1, hd3, hr3, hz3⟩
        have hD3 := Lib.hid (hD2.out.trans hd3)
        clear hd3 hD2 hz3
        go_wp2
        go_ret
        exact DrP.one hD3.out hr3.out (by omega) (by omega)
  · have hz' : (r1 == 0) = false := by simpa using hz
    go_wp2_with fail
    refine (pick_x rb _ _ _ (hr1.out.stay ((Below.refl _ _).alloc (Nat.le_refl _) _)) (by omega)).mono ?_
    rintro e w2 ⟨q, rfl, hq0, hq1, hd2, hr2, hz2⟩
    have hlt1 := hr1.out.lt
    have hcell : ∀ (j : Nat) (v : Value), #[Value.int .i64 4, .int .i64 4, .int .i64 4, .int .i64 5, .int .i64 5, .int .i64 8, .int .i64 8, .int .i64 6, .int .i64 7][j]? = some v → w2.cell? ⟨w1.heap.size, j, none⟩ = some v :=
      fun j v h => hd2.kp _ _ (by show w1.heap.size ≠ rb; omega) (by rw [World.cell?_alloc_mark]; exact h)
    obtain ⟨j, rfl⟩ := Int.eq_ofNat_of_zero_le hq0
    have hj : j < 9 := by omega
    clear hq0 hq1
    obtain ⟨k, hk4, hk8, hck⟩ : ∃ k : Int, 4 ≤ k ∧ k ≤ 8 ∧ w2.cell? ⟨w1.heap.size, j, none⟩ = some (.int .i64 k) := by
      rcases (by omega : j = 0 ∨ j = 1 ∨ j = 2 ∨ j = 3 ∨ j = 4 ∨ j = 5 ∨ j = 6 ∨ j = 7 ∨ j = 8) with rfl | rfl | rfl | rfl | rfl | rfl | rfl | rfl | rfl
      · exact ⟨4, by omega, by omega, hcell 0 _ rfl⟩
      · exact ⟨4, by omega, by omega, hcell 1 _ rfl⟩
      · exact ⟨4, by omega, by omega, hcell 2 _ rfl⟩
      · exact ⟨5, by omega, by omega, hcell 3 _ rfl⟩
      · exact ⟨5, by omega, by omega, hcell 4 _ rfl⟩
      · exact ⟨8, by omega, by omega, hcell 5 _ rfl⟩
      · exact ⟨8, by omega, by omega, hcell 6 _ rfl⟩
      · exact ⟨6, by omega, by omega, hcell 7 _ rfl⟩
      · exact ⟨7, by omega, by omega, hcell 8 _ rfl⟩
    clear hcell
    have hjI : (j : Int) < 9 := by omega
    have hD2 := Lib.hid ((hd1.trans (Dr.below ((Below.refl _ _).alloc (Nat.le_refl _) _))).trans hd2)
    have hs2 : w.heap.size ≤ w2.heap.size := hD2.out.size
    clear hd1 hd2 hz2 hlt1 hr1 H Hz1
    have K4 := 0
    clear K4
    have key : plain = false ∧ k = 4 ∨ plain = false ∧ k = 5 ∨ plain = false ∧ k = 6 ∨ plain = false ∧ k = 7 ∨ plain = false ∧ k = 8 ∨ plain = true ∧ k = 4 ∨ plain = true ∧ k = 5 ∨ plain = true ∧ k = 6 ∨ plain = true ∧ k = 7 ∨ plain = true ∧ k = 8 := by
      cases plain
      · simp; omega
      · simp; omega
    clear hk4 hk8
    rcases key with ⟨rfl, rfl⟩ | ⟨rfl, rfl⟩ | ⟨rfl, rfl⟩ | ⟨rfl, rfl⟩ | ⟨rfl, rfl⟩ | ⟨rfl, rfl⟩ | ⟨rfl, rfl⟩ | ⟨rfl, rfl⟩ | ⟨rfl, rfl⟩ | ⟨rfl, rfl⟩
    · go_wp2_with fail
      refine (IH _ w2 hr2.out (by omega)).mono ?_
      rintro e w3 ⟨v3, xs, p3, rfl, hx3, hp3, hd3, hr3, ho3'⟩
      obtain ⟨a3, c3, rfl, _⟩ := ho3'.out.shape
      have hD3 := Lib.hid (hD2.out.trans hd3)
      have hs3 : w.heap.size ≤ w3.heap.size := Nat.le_trans hs2 hd3.size
      have ho3 : Hid (Own2 w3 w.heap.size 67 (.slice a3 xs.length c3) xs) := Lib.hid (ownBase ho3'.out hs2)
      clear hd3 ho3'
      go_wp2_with fail
      refine (pick_x rb p3 _ w3 hr3.out (by omega)).mono ?_
      rintro e w4 ⟨r4, rfl, hr40, hr41, hd4, hr4, hz4⟩
      have hD4 := Lib.hid (hD3.out.trans hd4)
      have ho4 : Hid (Own2 w4 w.heap.size 67 (.slice a3 xs.length c3) xs) := Lib.hid (hd4.own ho3.out hrbw)
      have hs4 : w.heap.size ≤ w4.heap.size := by omega
      have hz4' := Lib.hid hz4
      clear hd4 hz4
      by_cases h4 : r4 = 0
      · subst h4
        clear hr40 hr41
        go_wp2_with (at_builtin; first
          | (refine app2 elPart (by decide) rfl (.tmp 73) (.tmp 76) rfl w.heap.size _ (xs ++ xs) 4 0 w8 rfl rfl rfl h8.out hln8 hs8 ?_; intro v9 w9 h9 hg9)
          | (refine appMany (S := (w.heap.size ≤ ·)) elPart (by decide) rfl (.tmp 63) (.tmp 64) rfl w.heap.size _ _ xs.length xs.length (cells2 xs) (cells2 xs) w4 rfl rfl ho4.out ho4.out.rd (by rw [length_cells2]; omega) (cells2_one' xs) (by omega) hs4 ?_; intro v8 w8 h8' hg8; have h8 := Lib.hid (own2App h8'.out); have hs8 : w.heap.size ≤ w8.heap.size := Nat.le_trans hs4 hg8.size; have hln8 : (xs ++ xs).length ≤ 1000000000 := (by rw [List.length_append]; omega)))
        go_ret
        exact ⟨_, _, p3 + 1, rfl, by rw [List.length_append, List.length_append, List.length_singleton]; omega, by omega, (hD4.out.grown hg8 (fun b hb => (World.ownsRow.lt ho4.out b hb).1)).grown hg9 (fun b hb => (World.ownsRow.lt h8.out b hb).1), Lib.hid ((hr4.out.grow hg8 fun b hb => by have := (World.ownsRow.lt ho4.out b hb).1; omega).grow hg9 fun b hb => by have := (World.ownsRow.lt h8.out b hb).1; omega), h9⟩
      · have h4' : (r4 == 0) = false := by simpa using h4
        go_wp2_with fail
        refine (IH _ w4 hr4.out (by omega)).mono ?_
        rintro e w5 ⟨v5, ys, p5, rfl, hy5, hp5, hd5, hr5, ho5⟩
        obtain ⟨a5, c5, rfl, _⟩ := ho5.out.shape
        have hD5 := Lib.hid (hD4.out.trans hd5)
        have ho45 := Lib.hid (hd5.own ho4.out hrbw)
        have hs5 : w.heap.size ≤ w5.heap.size := Nat.le_trans hs4 hd5.size
        clear hd5
        go_wp2_with (at_builtin; first
          | (refine app2 elPart (by decide) rfl (.tmp 73) (.tmp 76) rfl w.heap.size _ (xs ++ ys) 4 0 w8 rfl rfl rfl h8.out hln8 hs8 ?_; intro v9 w9 h9 hg9)
          | (refine appMany (S := (w4.heap.size ≤ ·)) elPart (by decide) rfl (.tmp 66) (.tmp 71) rfl w.heap.size _ _ xs.length ys.length (cells2 xs) (cells2 ys) w5 rfl rfl ho45.out ho5.out.rd (by rw [length_cells2]; omega) (cells2_one' ys) (by omega) hs5 ?_; intro v8 w8 h8' hg8; have h8 := Lib.hid (own2App h8'.out); have hs8 : w.heap.size ≤ w8.heap.size := Nat.le_trans hs5 hg8.size; have hln8 : (xs ++ ys).length ≤ 1000000000 := (by rw [List.length_append]; omega)))
        go_ret
        exact ⟨_, _, p5, rfl, by rw [List.length_append, List.length_append, List.length_singleton]; omega, by omega, (hD5.out.grown hg8 (fun b hb => (World.ownsRow.lt ho45.out b hb).1)).grown hg9 (fun b hb => (World.ownsRow.lt h8.out b hb).1), Lib.hid ((hr5.out.grow hg8 fun b hb => by have := (World.ownsRow.lt ho45.out b hb).1; omega).grow hg9 fun b hb => by have := (World.ownsRow.lt h8.out b hb).1; omega), h9⟩
    · go_wp2_with fail
      refine (IH _ w2 hr2.out (by omega)).mono ?_
      rintro e w3 ⟨v3, xs, p3, rfl, hx3, hp3, hd3, hr3, ho3'⟩
      obtain ⟨a3, c3, rfl, _⟩ := ho3'.out.shape
      have hD3 := Lib.hid (hD2.out.trans hd3)
      have hs3 : w.heap.size ≤ w3.heap.size := Nat.le_trans hs2 hd3.size
      have ho3 : Hid (Own2 w3 w.heap.size 67 (.slice a3 xs.length c3) xs) := Lib.hid (ownBase ho3'.out hs2)
      clear hd3 ho3'
      go_wp2_with fail
      refine (pick_x rb p3 _ w3 hr3.out (by omega)).mono ?_
      rintro e w4 ⟨r4, rfl, hr40, hr41, hd4, hr4, hz4⟩
      have hD4 := Lib.hid (hD3.out.trans hd4)
      have ho4 : Hid (Own2 w4 w.heap.size 67 (.slice a3 xs.length c3) xs) := Lib.hid (hd4.own ho3.out hrbw)
      have hs4 : w.heap.size ≤ w4.heap.size := by omega
      have hz4' := Lib.hid hz4
      clear hd4 hz4
      by_cases h4 : r4 = 0
      · subst h4
        clear hr40 hr41
        go_wp2_with (at_builtin; first
          | (refine app2 elPart (by decide) rfl (.tmp 73) (.tmp 76) rfl w.heap.size _ (xs ++ xs) 5 0 w8 rfl rfl rfl h8.out hln8 hs8 ?_; intro v9 w9 h9 hg9)
          | (refine appMany (S := (w.heap.size ≤ ·)) elPart (by decide) rfl (.tmp 63) (.tmp 64) rfl w.heap.size _ _ xs.length xs.length (cells2 xs) (cells2 xs) w4 rfl rfl ho4.out ho4.out.rd (by rw [length_cells2]; omega) (cells2_one' xs) (by omega) hs4 ?_; intro v8 w8 h8' hg8; have h8 := Lib.hid (own2App h8'.out); have hs8 : w.heap.size ≤ w8.heap.size := Nat.le_trans hs4 hg8.size; have hln8 : (xs ++ xs).length ≤ 1000000000 := (by rw [List.length_append]; omega)))
        go_ret
        exact ⟨_, _, p3 + 1, rfl, by rw [List.length_append, List.length_append, List.length_singleton]; omega, by omega, (hD4.out.grown hg8 (fun b hb => (World.ownsRow.lt ho4.out b hb).1)).grown hg9 (fun b hb => (World.ownsRow.lt h8.out b hb).1), Lib.hid ((hr4.out.grow hg8 fun b hb => by have := (World.ownsRow.lt ho4.out b hb).1; omega).grow hg9 fun b hb => by have := (World.ownsRow.lt h8.out b hb).1; omega), h9⟩
      · have h4' : (r4 == 0) = false := by simpa using h4
        go_wp2_with fail
        refine (IH _ w4 hr4.out (by omega)).mono ?_
        rintro e w5 ⟨v5, ys, p5, rfl, hy5, hp5, hd5, hr5, ho5⟩
        obtain ⟨a5, c5, rfl, _⟩ := ho5.out.shape
        have hD5 := Lib.hid (hD4.out.trans hd5)
        have ho45 := Lib.hid (hd5.own ho4.out hrbw)
        have hs5 : w.heap.size ≤ w5.heap.size := Nat.le_trans hs4 hd5.size
        clear hd5
        go_wp2_with (at_builtin; first
          | (refine app2 elPart (by decide) rfl (.tmp 73) (.tmp 76) rfl w.heap.size _ (xs ++ ys) 5 0 w8 rfl rfl rfl h8.out hln8 hs8 ?_; intro v9 w9 h9 hg9)
          | (refine appMany (S := (w4.heap.size ≤ ·)) elPart (by decide) rfl (.tmp 66) (.tmp 71) rfl w.heap.size _ _ xs.length ys.length (cells2 xs) (cells2 ys) w5 rfl rfl ho45.out ho5.out.rd (by rw [length_cells2]; omega) (cells2_one' ys) (by omega) hs5 ?_; intro v8 w8 h8' hg8; have h8 := Lib.hid (own2App h8'.out); have hs8 : w.heap.size ≤ w8.heap.size := Nat.le_trans hs5 hg8.size; have hln8 : (xs ++ ys).length ≤ 1000000000 := (by rw [List.length_append]; omega)))
        go_ret
        exact ⟨_, _, p5, rfl, by rw [List.length_append, List.length_append, List.length_singleton]; omega, by omega, (hD5.out.grown hg8 (fun b hb => (World.ownsRow.lt ho45.out b hb).1)).grown hg9 (fun b hb => (World.ownsRow.lt h8.out b hb).1), Lib.hid ((hr5.out.grow hg8 fun b hb => by have := (World.ownsRow.lt ho45.out b hb).1; omega).grow hg9 fun b hb => by have := (World.ownsRow.lt h8.out b hb).1; omega), h9⟩
    · go_wp2_with fail
      refine (IH _ w2 hr2.out (by omega)).mono ?_
      rintro e w3 ⟨v3, xs, p3, rfl, hx3, hp3, hd3, hr3, ho3'⟩
      obtain ⟨a3, c3, rfl, _⟩ := ho3'.out.shape
      have hD3 := Lib.hid (hD2.out.trans hd3)
      have hs3 : w.heap.size ≤ w3.heap.size := Nat.le_trans hs2 hd3.size
      have ho3 : Hid (Own2 w3 w.heap.size 67 (.slice a3 xs.length c3) xs) := Lib.hid (ownBase ho3'.out hs2)
      clear hd3 ho3'
      go_wp2_with fail
      refine (pick_x rb p3 _ w3 hr3.out (by omega)).mono ?_
      rintro e w4 ⟨r4, rfl, hr40, hr41, hd4, hr4, hz4⟩
      have hD4 := Lib.hid (hD3.out.trans hd4)
      have ho4 : Hid (Own2 w4 w.heap.size 67 (.slice a3 xs.length c3) xs) := Lib.hid (hd4.own ho3.out hrbw)
      have hs4 : w.heap.size ≤ w4.heap.size := by omega
      have hz4' := Lib.hid hz4
      clear hd4 hz4
      by_cases h4 : r4 = 0
      · subst h4
        clear hr40 hr41
        go_wp2_with (at_builtin; first
          | (refine app2 elPart (by decide) rfl (.tmp 73) (.tmp 76) rfl w.heap.size _ (xs ++ xs) 6 0 w8 rfl rfl rfl h8.out hln8 hs8 ?_; intro v9 w9 h9 hg9)
          | (refine appMany (S := (w.heap.size ≤ ·)) elPart (by decide) rfl (.tmp 63) (.tmp 64) rfl w.heap.size _ _ xs.length xs.length (cells2 xs) (cells2 xs) w4 rfl rfl ho4.out ho4.out.rd (by rw [length_cells2]; omega) (cells2_one' xs) (by omega) hs4 ?_; intro v8 w8 h8' hg8; have h8 := Lib.hid (own2App h8'.out); have hs8 : w.heap.size ≤ w8.heap.size := Nat.le_trans hs4 hg8.size; have hln8 : (xs ++ xs).length ≤ 1000000000 := (by rw [List.length_append]; omega)))
        go_ret
        exact ⟨_, _, p3 + 1, rfl, by rw [List.length_append, List.length_append, List.length_singleton]; omega, by omega, (hD4.out.grown hg8 (fun b hb => (World.ownsRow.lt ho4.out b hb).1)).grown hg9 (fun b hb => (World.ownsRow.lt h8.out b hb).1), Lib.hid ((hr4.out.grow hg8 fun b hb => by have := (World.ownsRow.lt ho4.out b hb).1; omega).grow hg9 fun b hb => by have := (World.ownsRow.lt h8.out b hb).1; omega), h9⟩
      · have h4' : (r4 == 0) = false := by simpa using h4
        go_wp2_with fail
        refine (IH _ w4 hr4.out (by omega)).mono ?_
        rintro e w5 ⟨v5, ys, p5, rfl, hy5, hp5, hd5, hr5, ho5⟩
        obtain ⟨a5, c5, rfl, _⟩ := ho5.out.shape
        have hD5 := Lib.hid (hD4.out.trans hd5)
        have ho45 := Lib.hid (hd5.own ho4.out hrbw)
        have hs5 : w.heap.size ≤ w5.heap.size := Nat.le_trans hs4 hd5.size
        clear hd5
        go_wp2_with (at_builtin; first
          | (refine app2 elPart (by decide) rfl (.tmp 73) (.tmp 76) rfl w.heap.size _ (xs ++ ys) 6 0 w8 rfl rfl rfl h8.out hln8 hs8 ?_; intro v9 w9 h9 hg9)
          | (refine appMany (S := (w4.heap.size ≤ ·)) elPart (by decide) rfl (.tmp 66) (.tmp 71) rfl w.heap.size _ _ xs.length ys.length (cells2 xs) (cells2 ys) w5 rfl rfl ho45.out ho5.out.rd (by rw [length_cells2]; omega) (cells2_one' ys) (by omega) hs5 ?_; intro v8 w8 h8' hg8; have h8 := Lib.hid (own2App h8'.out); have hs8 : w.heap.size ≤ w8.heap.size := Nat.le_trans hs5 hg8.size; have hln8 : (xs ++ ys).length ≤ 1000000000 := (by rw [List.length_append]; omega)))
        go_ret
        exact ⟨_, _, p5, rfl, by rw [List.length_append, List.length_append, List.length_singleton]; omega, by omega, (hD5.out.grown hg8 (fun b hb => (World.ownsRow.lt ho45.out b hb).1)).grown hg9 (fun b hb => (World.ownsRow.lt h8.out b hb).1), Lib.hid ((hr5.out.grow hg8 fun b hb => by have := (World.ownsRow.lt ho45.out b hb).1; omega).grow hg9 fun b hb => by have := (World.ownsRow.lt h8.out b hb).1; omega), h9⟩
    · go_wp2_with fail
      refine (IH _ w2 hr2.out (by omega)).mono ?_
      rintro e w3 ⟨v3, xs, p3, rfl, hx3, hp3, hd3, hr3, ho3'⟩
      obtain ⟨a3, c3, rfl, _⟩ := ho3'.out.shape
      have hD3 := Lib.hid (hD2.out.trans hd3)
      have hs3 : w.heap.size ≤ w3.heap.size := Nat.le_trans hs2 hd3.size
      have ho3 : Hid (Own2 w3 w.heap.size 67 (.slice a3 xs.length c3) xs) := Lib.hid (ownBase ho3'.out hs2)
      clear hd3 ho3'
      go_wp2_with (at_builtin; refine app2 elPart (by decide) rfl (.tmp 73) (.tmp 76) rfl w.heap.size _ xs 7 0 w3 rfl rfl rfl ho3.out (by omega) hs3 ?_; intro v8 w8 h8 hg8)
      go_ret
      exact ⟨_, _, p3, rfl, by rw [List.length_append, List.length_singleton]; omega, by omega, hD3.out.grown hg8 (fun b hb => (World.ownsRow.lt ho3.out b hb).1), Lib.hid (hr3.out.grow hg8 fun b hb => by have := (World.ownsRow.lt ho3.out b hb).1; omega), h8⟩
    · go_wp2_with fail
      refine (IH _ w2 hr2.out (by omega)).mono ?_
      rintro e w3 ⟨v3, xs, p3, rfl, hx3, hp3, hd3, hr3, ho3'⟩
      obtain ⟨a3, c3, rfl, _⟩ := ho3'.out.shape
      have hD3 := Lib.hid (hD2.out.trans hd3)
      have hs3 : w.heap.size ≤ w3.heap.size := Nat.le_trans hs2 hd3.size
      have ho3 : Hid (Own2 w3 w.heap.size 67 (.slice a3 xs.length c3) xs) := Lib.hid (ownBase ho3'.out hs2)
      clear hd3 ho3'
      go_wp2_with (at_builtin; refine app2 elPart (by decide) rfl (.tmp 73) (.tmp 76) rfl w.heap.size _ xs 8 0 w3 rfl rfl rfl ho3.out (by omega) hs3 ?_; intro v8 w8 h8 hg8)
      go_ret
      exact ⟨_, _, p3, rfl, by rw [List.length_append, List.length_singleton]; omega, by omega, hD3.out.grown hg8 (fun b hb => (World.ownsRow.lt ho3.out b hb).1), Lib.hid (hr3.out.grow hg8 fun b hb => by have := (World.ownsRow.lt ho3.out b hb).1; omega), h8⟩
    · go_wp2_with fail
      refine (IH _ w2 hr2.out (by omega)).mono ?_
      rintro e w3 ⟨v3, xs, p3, rfl, hx3, hp3, hd3, hr3, ho3'⟩
      obtain ⟨a3, c3, rfl, _⟩ := ho3'.out.shape
      have hD3 := Lib.hid (hD2.out.trans hd3)
      have hs3 : w.heap.size ≤ w3.heap.size := Nat.le_trans hs2 hd3.size
      have ho3 : Hid (Own2 w3 w.heap.size 67 (.slice a3 xs.length c3) xs) := Lib.hid (ownBase ho3'.out hs2)
      clear hd3 ho3'
      go_wp2_with fail
      refine (pick_x rb p3 _ w3 hr3.out (by omega)).mono ?_
      rintro e w4 ⟨r4, rfl, hr40, hr41, hd4, hr4, hz4⟩
      have hD4 := Lib.hid (hD3.out.trans hd4)
      have ho4 : Hid (Own2 w4 w.heap.size 67 (.slice a3 xs.length c3) xs) := Lib.hid (hd4.own ho3.out hrbw)
      have hs4 : w.heap.size ≤ w4.heap.size := by omega
      have hz4' := Lib.hid hz4
      clear hd4 hz4
      by_cases h4 : r4 = 0
      · subst h4
        clear hr40 hr41
        go_wp2_with (at_builtin; first
          | (refine app2 elPart (by decide) rfl (.tmp 73) (.tmp 76) rfl w.heap.size _ (xs ++ xs) 4 0 w8 rfl rfl rfl h8.out hln8 hs8 ?_; intro v9 w9 h9 hg9)
          | (refine appMany (S := (w.heap.size ≤ ·)) elPart (by decide) rfl (.tmp 63) (.tmp 64) rfl w.heap.size _ _ xs.length xs.length (cells2 xs) (cells2 xs) w4 rfl rfl ho4.out ho4.out.rd (by rw [length_cells2]; omega) (cells2_one' xs) (by omega) hs4 ?_; intro v8 w8 h8' hg8; have h8 := Lib.hid (own2App h8'.out); have hs8 : w.heap.size ≤ w8.heap.size := Nat.le_trans hs4 hg8.size; have hln8 : (xs ++ xs).length ≤ 1000000000 := (by rw [List.length_append]; omega)))
        go_ret
        exact ⟨_, _, p3 + 1, rfl, by rw [List.length_append, List.length_append, List.length_singleton]; omega, by omega, (hD4.out.grown hg8 (fun b hb => (World.ownsRow.lt ho4.out b hb).1)).grown hg9 (fun b hb => (World.ownsRow.lt h8.out b hb).1), Lib.hid ((hr4.out.grow hg8 fun b hb => by have := (World.ownsRow.lt ho4.out b hb).1; omega).grow hg9 fun b hb => by have := (World.ownsRow.lt h8.out b hb).1; omega), h9⟩
      · have h4' : (r4 == 0) = false := by simpa using h4
        go_wp2_with fail
        refine (IH _ w4 hr4.out (by omega)).mono ?_
        rintro e w5 ⟨v5, ys, p5, rfl, hy5, hp5, hd5, hr5, ho5⟩
        obtain ⟨a5, c5, rfl, _⟩ := ho5.out.shape
        have hD5 := Lib.hid (hD4.out.trans hd5)
        have ho45 := Lib.hid (hd5.own ho4.out hrbw)
        have hs5 : w.heap.size ≤ w5.heap.size := Nat.le_trans hs4 hd5.size
        clear hd5
        go_wp2_with (at_builtin; first
          | (refine app2 elPart (by decide) rfl (.tmp 73) (.tmp 76) rfl w.heap.size _ (xs ++ ys) 4 0 w8 rfl rfl rfl h8.out hln8 hs8 ?_; intro v9 w9 h9 hg9)
          | (refine appMany (S := (w4.heap.size ≤ ·)) elPart (by decide) rfl (.tmp 66) (.tmp 71) rfl w.heap.size _ _ xs.length ys.length (cells2 xs) (cells2 ys) w5 rfl rfl ho45.out ho5.out.rd (by rw [length_cells2]; omega) (cells2_one' ys) (by omega) hs5 ?_; intro v8 w8 h8' hg8; have h8 := Lib.hid (own2App h8'.out); have hs8 : w.heap.size ≤ w8.heap.size := Nat.le_trans hs5 hg8.size; have hln8 : (xs ++ ys).length ≤ 1000000000 := (by rw [List.length_append]; omega)))
        go_ret
        exact ⟨_, _, p5, rfl, by rw [List.length_append, List.length_append, List.length_singleton]; omega, by omega, (hD5.out.grown hg8 (fun b hb => (World.ownsRow.lt ho45.out b hb).1)).grown hg9 (fun b hb => (World.ownsRow.lt h8.out b hb).1), Lib.hid ((hr5.out.grow hg8 fun b hb => by have := (World.ownsRow.lt ho45.out b hb).1; omega).grow hg9 fun b hb => by have := (World.ownsRow.lt h8.out b hb).1; omega), h9⟩
    · go_wp2_with fail
      refine (IH _ w2 hr2.out (by omega)).mono ?_
      rintro e w3 ⟨v3, xs, p3, rfl, hx3, hp3, hd3, hr3, ho3'⟩
      obtain ⟨a3, c3, rfl, _⟩ := ho3'.out.shape
      have hD3 := Lib.hid (hD2.out.trans hd3)
      have hs3 : w.heap.size ≤ w3.heap.size := Nat.le_trans hs2 hd3.size
      have ho3 : Hid (Own2 w3 w.heap.size 67 (.slice a3 xs.length c3) xs) := Lib.hid (ownBase ho3'.out hs2)
      clear hd3 ho3'
      go_wp2_with fail
      refine (pick_x rb p3 _ w3 hr3.out (by omega)).mono ?_
      rintro e w4 ⟨r4, rfl, hr40, hr41, hd4, hr4, hz4⟩
      have hD4 := Lib.hid (hD3.out.trans hd4)
      have ho4 : Hid (Own2 w4 w.heap.size 67 (.slice a3 xs.length c3) xs) := Lib.hid (hd4.own ho3.out hrbw)
      have hs4 : w.heap.size ≤ w4.heap.size := by omega
      have hz4' := Lib.hid hz4
      clear hd4 hz4
      by_cases h4 : r4 = 0
      · subst h4
        clear hr40 hr41
        go_wp2_with (at_builtin; first
          | (refine app2 elPart (by decide) rfl (.tmp 73) (.tmp 76) rfl w.heap.size _ (xs ++ xs) 5 0 w8 rfl rfl rfl h8.out hln8 hs8 ?_; intro v9 w9 h9 hg9)
          | (refine appMany (S := (w.heap.size ≤ ·)) elPart (by decide) rfl (.tmp 63) (.tmp 64) rfl w.heap.size _ _ xs.length xs.length (cells2 xs) (cells2 xs) w4 rfl rfl ho4.out ho4.out.rd (by rw [length_cells2]; omega) (cells2_one' xs) (by omega) hs4 ?_; intro v8 w8 h8' hg8; have h8 := Lib.hid (own2App h8'.out); have hs8 : w.heap.size ≤ w8.heap.size := Nat.le_trans hs4 hg8.size; have hln8 : (xs ++ xs).length ≤ 1000000000 := (by rw [List.length_append]; omega)))
        go_ret
        exact ⟨_, _, p3 + 1, rfl, by rw [List.length_append, List.length_append, List.length_singleton]; omega, by omega, (hD4.out.grown hg8 (fun b hb => (World.ownsRow.lt ho4.out b hb).1)).grown hg9 (fun b hb => (World.ownsRow.lt h8.out b hb).1), Lib.hid ((hr4.out.grow hg8 fun b hb => by have := (World.ownsRow.lt ho4.out b hb).1; omega).grow hg9 fun b hb => by have := (World.ownsRow.lt h8.out b hb).1; omega), h9⟩
      · have h4' : (r4 == 0) = false := by simpa using h4
        go_wp2_with fail
        refine (IH _ w4 hr4.out (by omega)).mono ?_
        rintro e w5 ⟨v5, ys, p5, rfl, hy5, hp5, hd5, hr5, ho5⟩
        obtain ⟨a5, c5, rfl, _⟩ := ho5.out.shape
        have hD5 := Lib.hid (hD4.out.trans hd5)
        have ho45 := Lib.hid (hd5.own ho4.out hrbw)
        have hs5 : w.heap.size ≤ w5.heap.size := Nat.le_trans hs4 hd5.size
        clear hd5
        go_wp2_with (at_builtin; first
          | (refine app2 elPart (by decide) rfl (.tmp 73) (.tmp 76) rfl w.heap.size _ (xs ++ ys) 5 0 w8 rfl rfl rfl h8.out hln8 hs8 ?_; intro v9 w9 h9 hg9)
          | (refine appMany (S := (w4.heap.size ≤ ·)) elPart (by decide) rfl (.tmp 66) (.tmp 71) rfl w.heap.size _ _ xs.length ys.length (cells2 xs) (cells2 ys) w5 rfl rfl ho45.out ho5.out.rd (by rw [length_cells2]; omega) (cells2_one' ys) (by omega) hs5 ?_; intro v8 w8 h8' hg8; have h8 := Lib.hid (own2App h8'.out); have hs8 : w.heap.size ≤ w8.heap.size := Nat.le_trans hs5 hg8.size; have hln8 : (xs ++ ys).length ≤ 1000000000 := (by rw [List.length_append]; omega)))
        go_ret
        exact ⟨_, _, p5, rfl, by rw [List.length_append, List.length_append, List.length_singleton]; omega, by omega, (hD5.out.grown hg8 (fun b hb => (World.ownsRow.lt ho45.out b hb).1)).grown hg9 (fun b hb => (World.ownsRow.lt h8.out b hb).1), Lib.hid ((hr5.out.grow hg8 fun b hb => by have := (World.ownsRow.lt ho45.out b hb).1; omega).grow hg9 fun b hb => by have := (World.ownsRow.lt h8.out b hb).1; omega), h9⟩
    · go_wp2_with fail
      refine (IH _ w2 hr2.out (by omega)).mono ?_
      rintro e w3 ⟨v3, xs, p3, rfl, hx3, hp3, hd3, hr3, ho3'⟩
      obtain ⟨a3, c3, rfl, _⟩ := ho3'.out.shape
      have hD3 := Lib.hid (hD2.out.trans hd3)
      have hs3 : w.heap.size ≤ w3.heap.size := Nat.le_trans hs2 hd3.size
      have ho3 : Hid (Own2 w3 w.heap.size 67 (.slice a3 xs.length c3) xs) := Lib.hid (ownBase ho3'.out hs2)
      clear hd3 ho3'
      go_wp2_with fail
      refine (pick_x rb p3 _ w3 hr3.out (by omega)).mono ?_
      rintro e w4 ⟨r4, rfl, hr40, hr41, hd4, hr4, hz4⟩
      have hD4 := Lib.hid (hD3.out.trans hd4)
      have ho4 : Hid (Own2 w4 w.heap.size 67 (.slice a3 xs.length c3) xs) := Lib.hid (hd4.own ho3.out hrbw)
      have hs4 : w.heap.size ≤ w4.heap.size := by omega
      have hz4' := Lib.hid hz4
      clear hd4 hz4
      by_cases h4 : r4 = 0
      · subst h4
        clear hr40 hr41
        go_wp2_with (at_builtin; first
          | (refine app2 elPart (by decide) rfl (.tmp 73) (.tmp 76) rfl w.heap.size _ (xs ++ xs) 4 0 w8 rfl rfl rfl h8.out hln8 hs8 ?_; intro v9 w9 h9 hg9)
          | (refine appMany (S := (w.heap.size ≤ ·)) elPart (by decide) rfl (.tmp 63) (.tmp 64) rfl w.heap.size _ _ xs.length xs.length (cells2 xs) (cells2 xs) w4 rfl rfl ho4.out ho4.out.rd (by rw [length_cells2]; omega) (cells2_one' xs) (by omega) hs4 ?_; intro v8 w8 h8' hg8; have h8 := Lib.hid (own2App h8'.out); have hs8 : w.heap.size ≤ w8.heap.size := Nat.le_trans hs4 hg8.size; have hln8 : (xs ++ xs).length ≤ 1000000000 := (by rw [List.length_append]; omega)))
        go_ret
        exact ⟨_, _, p3 + 1, rfl, by rw [List.length_append, List.length_append, List.length_singleton]; omega, by omega, (hD4.out.grown hg8 (fun b hb => (World.ownsRow.lt ho4.out b hb).1)).grown hg9 (fun b hb => (World.ownsRow.lt h8.out b hb).1), Lib.hid ((hr4.out.grow hg8 fun b hb => by have := (World.ownsRow.lt ho4.out b hb).1; omega).grow hg9 fun b hb => by have := (World.ownsRow.lt h8.out b hb).1; omega), h9⟩
      · have h4' : (r4 == 0) = false := by simpa using h4
        go_wp2_with fail
        refine (IH _ w4 hr4.out (by omega)).mono ?_
        rintro e w5 ⟨v5, ys, p5, rfl, hy5, hp5, hd5, hr5, ho5⟩
        obtain ⟨a5, c5, rfl, _⟩ := ho5.out.shape
        have hD5 := Lib.hid (hD4.out.trans hd5)
        have ho45 := Lib.hid (hd5.own ho4.out hrbw)
        have hs5 : w.heap.size ≤ w5.heap.size := Nat.le_trans hs4 hd5.size
        clear hd5
        go_wp2_with (at_builtin; first
          | (refine app2 elPart (by decide) rfl (.tmp 73) (.tmp 76) rfl w.heap.size _ (xs ++ ys) 4 0 w8 rfl rfl rfl h8.out hln8 hs8 ?_; intro v9 w9 h9 hg9)
          | (refine appMany (S := (w4.heap.size ≤ ·)) elPart (by decide) rfl (.tmp 66) (.tmp 71) rfl w.heap.size _ _ xs.length ys.length (cells2 xs) (cells2 ys) w5 rfl rfl ho45.out ho5.out.rd (by rw [length_cells2]; omega) (cells2_one' ys) (by omega) hs5 ?_; intro v8 w8 h8' hg8; have h8 := Lib.hid (own2App h8'.out); have hs8 : w.heap.size ≤ w8.heap.size := Nat.le_trans hs5 hg8.size; have hln8 : (xs ++ ys).length ≤ 1000000000 := (by rw [List.length_append]; omega)))
        go_ret
        exact ⟨_, _, p5, rfl, by rw [List.length_append, List.length_append, List.length_singleton]; omega, by omega, (hD5.out.grown hg8 (fun b hb => (World.ownsRow.lt ho45.out b hb).1)).grown hg9 (fun b hb => (World.ownsRow.lt h8.out b hb).1), Lib.hid ((hr5.out.grow hg8 fun b hb => by have := (World.ownsRow.lt ho45.out b hb).1; omega).grow hg9 fun b hb => by have := (World.ownsRow.lt h8.out b hb).1; omega), h9⟩
    · go_wp2_with fail
      refine (IH _ w2 hr2.out (by omega)).mono ?_
      rintro e w3 ⟨v3, xs, p3, rfl, hx3, hp3, hd3, hr3, ho3'⟩
      obtain ⟨a3, c3, rfl, _⟩ := ho3'.out.shape
      have hD3 := Lib.hid (hD2.out.trans hd3)
      have hs3 : w.heap.size ≤ w3.heap.size := Nat.le_trans hs2 hd3.size
      have ho3 : Hid (Own2 w3 w.heap.size 67 (.slice a3 xs.length c3) xs) := Lib.hid (ownBase ho3'.out hs2)
      clear hd3 ho3'
      go_wp2_with fail
      refine (pick_x rb p3 _ w3 hr3.out (by omega)).mono ?_
      rintro e w4 ⟨r4, rfl, hr40, hr41, hd4, hr4, hz4⟩
      have hD4 := Lib.hid (hD3.out.trans hd4)
      have ho4 : Hid (Own2 w4 w.heap.size 67 (.slice a3 xs.length c3) xs) := Lib.hid (hd4.own ho3.out hrbw)
      have hs4 : w.heap.size ≤ w4.heap.size := by omega
      have hz4' := Lib.hid hz4
      clear hd4 hz4
      by_cases h4 : r4 = 0
      · subst h4
        clear hr40 hr41
        go_wp2_with (at_builtin; first
          | (refine app2 elPart (by decide) rfl (.tmp 73) (.tmp 76) rfl w.heap.size _ (xs ++ xs) 4 0 w8 rfl rfl rfl h8.out hln8 hs8 ?_; intro v9 w9 h9 hg9)
          | (refine appMany (S := (w.heap.size ≤ ·)) elPart (by decide) rfl (.tmp 63) (.tmp 64) rfl w.heap.size _ _ xs.length xs.length (cells2 xs) (cells2 xs) w4 rfl rfl ho4.out ho4.out.rd (by rw [length_cells2]; omega) (cells2_one' xs) (by omega) hs4 ?_; intro v8 w8 h8' hg8; have h8 := Lib.hid (own2App h8'.out); have hs8 : w.heap.size ≤ w8.heap.size := Nat.le_trans hs4 hg8.size; have hln8 : (xs ++ xs).length ≤ 1000000000 := (by rw [List.length_append]; omega)))
        go_ret
        exact ⟨_, _, p3 + 1, rfl, by rw [List.length_append, List.length_append, List.length_singleton]; omega, by omega, (hD4.out.grown hg8 (fun b hb => (World.ownsRow.lt ho4.out b hb).1)).grown hg9 (fun b hb => (World.ownsRow.lt h8.out b hb).1), Lib.hid ((hr4.out.grow hg8 fun b hb => by have := (World.ownsRow.lt ho4.out b hb).1; omega).grow hg9 fun b hb => by have := (World.ownsRow.lt h8.out b hb).1; omega), h9⟩
      · have h4' : (r4 == 0) = false := by simpa using h4
        go_wp2_with fail
        refine (IH _ w4 hr4.out (by omega)).mono ?_
        rintro e w5 ⟨v5, ys, p5, rfl, hy5, hp5, hd5, hr5, ho5⟩
        obtain ⟨a5, c5, rfl, _⟩ := ho5.out.shape
        have hD5 := Lib.hid (hD4.out.trans hd5)
        have ho45 := Lib.hid (hd5.own ho4.out hrbw)
        have hs5 : w.heap.size ≤ w5.heap.size := Nat.le_trans hs4 hd5.size
        clear hd5
        go_wp2_with (at_builtin; first
          | (refine app2 elPart (by decide) rfl (.tmp 73) (.tmp 76) rfl w.heap.size _ (xs ++ ys) 4 0 w8 rfl rfl rfl h8.out hln8 hs8 ?_; intro v9 w9 h9 hg9)
          | (refine appMany (S := (w4.heap.size ≤ ·)) elPart (by decide) rfl (.tmp 66) (.tmp 71) rfl w.heap.size _ _ xs.length ys.length (cells2 xs) (cells2 ys) w5 rfl rfl ho45.out ho5.out.rd (by rw [length_cells2]; omega) (cells2_one' ys) (by omega) hs5 ?_; intro v8 w8 h8' hg8; have h8 := Lib.hid (own2App h8'.out); have hs8 : w.heap.size ≤ w8.heap.size := Nat.le_trans hs5 hg8.size; have hln8 : (xs ++ ys).length ≤ 1000000000 := (by rw [List.length_append]; omega)))
        go_ret
        exact ⟨_, _, p5, rfl, by rw [List.length_append, List.length_append, List.length_singleton]; omega, by omega, (hD5.out.grown hg8 (fun b hb => (World.ownsRow.lt ho45.out b hb).1)).grown hg9 (fun b hb => (World.ownsRow.lt h8.out b hb).1), Lib.hid ((hr5.out.grow hg8 fun b hb => by have := (World.ownsRow.lt ho45.out b hb).1; omega).grow hg9 fun b hb => by have := (World.ownsRow.lt h8.out b hb).1; omega), h9⟩
    · go_wp2_with fail
      refine (IH _ w2 hr2.out (by omega)).mono ?_
      rintro e w3 ⟨v3, xs, p3, rfl, hx3, hp3, hd3, hr3, ho3'⟩
      obtain ⟨a3, c3, rfl, _⟩ := ho3'.out.shape
      have hD3 := Lib.hid (hD2.out.trans hd3)
      have hs3 : w.heap.size ≤ w3.heap.size := Nat.le_trans hs2 hd3.size
      have ho3 : Hid (Own2 w3 w.heap.size 67 (.slice a3 xs.length c3) xs) := Lib.hid (ownBase ho3'.out hs2)
      clear hd3 ho3'
      go_wp2_with (at_builtin; refine app2 elPart (by decide) rfl (.tmp 73) (.tmp 76) rfl w.heap.size _ xs 8 0 w3 rfl rfl rfl ho3.out (by omega) hs3 ?_; intro v8 w8 h8 hg8)
      go_ret
      exact ⟨_, _, p3, rfl, by rw [List.length_append, List.length_singleton]; omega, by omega, hD3.out.grown hg8 (fun b hb => (World.ownsRow.lt ho3.out b hb).1), Lib.hid (hr3.out.grow hg8 fun b hb => by have := (World.ownsRow.lt ho3.out b hb).1; omega), h8⟩
theorem l20Make_c (d : Nat) (hd : d ≤ 3) (rb p : Nat) (plain : Bool) (w : World) (h : Rdx w rb p) (hp : p ≤ 800000) : Calls Try.prog 80 #[.pointer (some ⟨rb, 0, none⟩), .int .i64 d, .bool plain] w (DrP rb p 60 15 w) := by
  have weak : ∀ {c m p : Nat} {w : World} {e : Ending} {w' : World}, c ≤ 60 → m ≤ 15 → DrP rb p c m w e w' → DrP rb p 60 15 w e w' := by
    rintro c m p w e w' hc hm ⟨v, xs, p', h1, h2, h3, h4⟩
    exact ⟨v, xs, p', h1, by omega, by omega, h4⟩
  have k0 : ∀ (p : Nat) (w : World), Rdx w rb p → p ≤ 880000 → Calls Try.prog 80 #[.pointer (some ⟨rb, 0, none⟩), .int .i64 (0 : Nat), .bool plain] w (DrP rb p 3 1 w) := fun p w h hp => l20Make0_c rb p plain w h (by omega)
  have k1 : ∀ (p : Nat) (w : World), Rdx w rb p → p ≤ 870000 → Calls Try.prog 80 #[.pointer (some ⟨rb, 0, none⟩), .int .i64 (1 : Nat), .bool plain] w (DrP rb p 10 3 w) := fun p w h hp => l20Make1_c 0 rb p 3 1 870000 plain w h (by omega) hp (by omega) (by omega) (by omega) (fun p w h hp => k0 p w h (by omega))
  have k2 : ∀ (p : Nat) (w : World), Rdx w rb p → p ≤ 860000 → Calls Try.prog 80 #[.pointer (some ⟨rb, 0, none⟩), .int .i64 (2 : Nat), .bool plain] w (DrP rb p 24 7 w) := fun p w h hp => l20Make1_c 1 rb p 10 3 860000 plain w h (by omega) hp (by omega) (by omega) (by omega) (fun p w h hp => k1 p w h (by omega))
  have k3 : ∀ (p : Nat) (w : World), Rdx w rb p → p ≤ 850000 → Calls Try.prog 80 #[.pointer (some ⟨rb, 0, none⟩), .int .i64 (3 : Nat), .bool plain] w (DrP rb p 52 15 w) := fun p w h hp => l20Make1_c 2 rb p 24 7 850000 plain w h (by omega) hp (by omega) (by omega) (by omega) (fun p w h hp => k2 p w h (by omega))
  rcases (by omega : d = 0 ∨ d = 1 ∨ d = 2 ∨ d = 3) with rfl | rfl | rfl | rfl
  · exact (k0 p w h (by omega)).mono fun e w' => weak (by omega) (by omega)
  · exact (k1 p w h (by omega)).mono fun e w' => weak (by omega) (by omega)
  · exact (k2 p w h (by omega)).mono fun e w' => weak (by omega) (by omega)
  · exact (k3 p w h (by omega)).mono fun e w' => weak (by omega) (by omega)
end Go.Proofs.Ytbcjhiponbfbnaa
namespace Go.Proofs.Ytbcjhiponbfbnaa
open Go.RowKit
set_option maxRecDepth 100000
variable {S T : Nat → Prop}
/-- A part was drawn. -/
def DxP (rb p c : Nat) (w : World) (e : Ending) (w' : World) : Prop := ∃ (x y : Int) (p' : Nat), e = .returned (.agg #[.int .i64 x, .int .i64 y]) ∧ p' ≤ p + c ∧ Dr rb w w' ∧ Hid (Rdx w' rb p')
theorem heapne {w : World} {b b' : Nat} {ob : Obj} (hne : b' ≠ b) (h : w.heap[b]? = some ob) (o : Nat) (v : Value) : (w.setCell ⟨b', o, none⟩ v).heap[b]? = some ob := by rw [Below.heap_setCell _ _ _ _ (by simpa using hne.symm)]; exact h
set_option maxHeartbeats 2000000 in
theorem l20Part_x (rb p : Nat) (n : Int) (w : World) (h : Rdx w rb p) (hp : p ≤ 900000) (hn1 : -9223372036854775808 < n) :
    Calls Try.prog 83 #[.pointer (some ⟨rb, 0, none⟩), .int .i64 n] w (DxP rb p 6 w) := by
  have hlt0 := h.lt
  obtain ⟨W, hW⟩ : ∃ W, W = w.alloc (.cells #[.int .i64 0, .int .i64 0] 67) := ⟨_, rfl⟩
  have Hb0 : Hid (Below w.heap.size w W) := by rw [hW]; exact (Below.refl _ _).alloc (Nat.le_refl _) _
  have K4 : Hid (W.heap[w.heap.size]? = some (.cells #[.int .i64 0, .int .i64 0] 67 (0, 0))) := by rw [hW]; exact blkNew _ _ rfl
  have H := Lib.hid (h.stay Hb0.out); clear h
  have HD0 := Lib.hid (Dr.below (rb := rb) Hb0.out)
  have HW := Lib.hid hW; clear hW Hb0
  go_enter Try.func83, Try.ntmps83
  go_wp2_with fail
  rw [← HW.out]; clear HW
  refine (pick_x rb p _ W H.out (by omega)).mono ?_
  rintro e w1 ⟨k, rfl, hk0, hk1, hd1, hr1, hzz⟩; clear hzz
  have hk8 : k ≤ 7 := by omega
  clear hk1 H
  have K41 := Lib.hid (hd1.blk K4.out (by omega))
  have HD1 := Lib.hid (HD0.out.trans hd1)
  have hs1 := HD1.out.size
  clear HD0 hd1 K4
  have hs41 : w.heap.size < w1.heap.size := (Array.getElem?_eq_some_iff.1 K41.out).1
  have hne : w.heap.size ≠ w1.heap.size := by omega
  have hne' : w1.heap.size ≠ w.heap.size := by omega
  have hrl : rb < w1.heap.size := hr1.out.lt
  by_cases hk3 : k = 2
  · subst hk3
    clear hk8 hk0
    obtain ⟨W2, hW2⟩ : ∃ x, x = w1.alloc (.cells #[.int .i64 3, .int .i64 0] 67) := ⟨_, rfl⟩
    have hb2 : Below w1.heap.size w1 W2 := by rw [hW2]; exact (Below.refl _ _).alloc (Nat.le_refl _) _
    have K42 := Lib.hid (blkBel hb2 K41.out)
    have K52 : Hid (W2.heap[w1.heap.size]? = some (.cells #[.int .i64 3, .int .i64 0] 67 (0, 0))) := by rw [hW2]; exact blkNew _ _ rfl
    have HR2 := Lib.hid (hr1.out.stay hb2)
    have HD2 := Lib.hid (HD1.out.trans (Dr.below hb2))
    have HW2 := Lib.hid hW2
    clear hW2 hb2 K41 HD1 hr1
    obtain ⟨a0, a1, a2, a3⟩ := blk2 K52.out
    rw [HW2.out] at a0 a1 a2 a3
    go_wp2_with fail
    rw [← HW2.out]; clear HW2 a0 a1 a2 a3
    refine (pick_x rb (p + 1) _ W2 HR2.out (by omega)).mono ?_
    rintro e w3 ⟨y, rfl, hy0, hy1, hd3, hr3, hzz⟩; clear hzz hy0 hy1
    have K43 := Lib.hid (heapne hne' (hd3.blk K42.out (by omega)) 1 (.int .i64 y))
    have K53 := Lib.hid (heap_set (hd3.blk K52.out (by omega)) 1 (.int .i64 y))
    have HD3 := Lib.hid ((HD2.out.trans hd3).setCell (g := w1.heap.size) (o := 1) hs1 (.int .i64 y))
    have HR3 := Lib.hid (hr3.out.set (g := w1.heap.size) (o := 1) (by omega) (.int .i64 y))
    have K533 := Lib.hid (hd3.blk K52.out (by omega))
    obtain ⟨b0, b1, b2, b3⟩ := blk2 K533.out
    clear hd3 hr3 K42 K52 HD2 HR2
    obtain ⟨c0, c1, c2, c3⟩ := blk2 K53.out
    obtain ⟨d0, d1, d2, d3⟩ := blk2 K43.out
    go_wp2_with fail
    refine (odd_x rb (p + 1 + 1) _ _ HR3.out (by omega) hn1).mono ?_
    rintro e w5 ⟨b, p5, rfl, hp5, hd5, hr5, hzz⟩; clear hzz
    have K45 := Lib.hid (hd5.blk K43.out (by omega))
    have K55 := Lib.hid (hd5.blk K53.out (by omega))
    have HD5 := Lib.hid (HD3.out.trans hd5)
    clear c0 c1 c2 c3 d0 d1 d2 d3 hd5
    cases b
    · skip
      obtain ⟨z0, z1, z2, z3⟩ := blk2 (heap_set (heap_set K45.out 0 (.int .i64 3)) 1 (.int .i64 y))
      obtain ⟨c0, c1, c2, c3⟩ := blk2 K55.out
      obtain ⟨d0, d1, d2, d3⟩ := blk2 K45.out
      go_wp2
      refine bodyPost_ret (v := .agg #[.int .i64 3, .int .i64 y]) (by simp [results, Try.results83, go_sem, z0, z1, z2]) rfl ?_
      exact ⟨_, _, p5, rfl, by omega, (HD5.out.setCell (Nat.le_refl _) _).setCell (Nat.le_refl _) _, (hr5.out.set (by omega) _).set (by omega) _⟩
    · skip
      obtain ⟨c0, c1, c2, c3⟩ := blk2 K55.out
      obtain ⟨d0, d1, d2, d3⟩ := blk2 K45.out
      go_wp2_with fail
      refine (pick_x rb p5 _ _ hr5.out (by omega)).mono ?_
      rintro e w6 ⟨q, rfl, hq0, hq1, hd6, hr6, hzz⟩; clear hzz
      have K46 := Lib.hid (hd6.blk K45.out (by omega))
      have K56 := Lib.hid (hd6.blk K55.out (by omega))
      have HD6 := Lib.hid (HD5.out.trans hd6)
      have hlt6 := hr6.out.lt
      have hs6 := HD6.out.size
      have hs16 : w1.heap.size < w6.heap.size := (Array.getElem?_eq_some_iff.1 K56.out).1
      clear c0 c1 c2 c3 d0 d1 d2 d3 hd6
      rcases (by omega : q = 0 ∨ q = 1) with rfl | rfl
      · clear hq0 hq1
        obtain ⟨c0, c1, c2, c3⟩ := blk2 K56.out
        obtain ⟨d0, d1, d2, d3⟩ := blk2 K46.out
        go_wp2_with fail
        refine (pick_x rb (p5 + 1) _ _ (hr6.out.stay ((Below.refl _ _).alloc (Nat.le_refl _) _)) (by omega)).mono ?_
        rintro e w7 ⟨r, rfl, hr0, hr1, hd7, hr7, hzz⟩; clear hzz
        have hcell : ∀ (j : Nat) (v : Value), (#[Value.int .i64 0, .int .i64 9] : Array Value)[j]? = some v → w7.cell? ⟨w6.heap.size, j, none⟩ = some v :=
          fun j v h => hd7.kp _ _ (by show w6.heap.size ≠ rb; omega) (by rw [World.cell?_alloc_mark]; exact h)
        have hc0 := hcell 0 _ rfl
        have hc1 := hcell 1 _ rfl
        clear hcell
        have K47 := Lib.hid (hd7.blk (blkOld K46.out) (by omega))
        have K57 := Lib.hid (hd7.blk (blkOld K56.out) (by omega))
        have HD7 := Lib.hid ((HD6.out.alloc _).trans hd7)
        clear hd7 c0 c1 c2 c3 d0 d1 d2 d3
        rcases (by omega : r = 0 ∨ r = 1) with rfl | rfl
        · clear hr0 hr1
          obtain ⟨e0, e1, e2, e3⟩ := blk2 K57.out
          have K5V := Lib.hid (heap_set K57.out 0 (.int .i64 0))
          have K4V : Hid ((w7.setCell ⟨w1.heap.size, 0, none⟩ (.int .i64 0)).heap[w.heap.size]? = some (.cells #[.int .i64 0, .int .i64 0] 67 (0, 0))) := Lib.hid (by rw [Below.heap_setCell _ _ _ _ (by simpa using hne)]; exact K47.out)
          have HDV := Lib.hid (HD7.out.setCell (g := w1.heap.size) (o := 0) hs1 (.int .i64 0))
          have HRV := Lib.hid (hr7.out.set (g := w1.heap.size) (o := 0) (by omega) (.int .i64 0))
          clear K47 K57 HD7 hr7
          obtain ⟨z0, z1, z2, z3⟩ := blk2 (heap_set (heap_set K4V.out 0 (.int .i64 0)) 1 (.int .i64 y))
          obtain ⟨c0, c1, c2, c3⟩ := blk2 K5V.out
          obtain ⟨d0, d1, d2, d3⟩ := blk2 K4V.out
          go_wp2
          refine bodyPost_ret (v := .agg #[.int .i64 0, .int .i64 y]) (by simp [results, Try.results83, go_sem, z0, z1, z2]) rfl ?_
          exact ⟨_, _, (p5 + 1 + 1), rfl, by omega, (HDV.out.setCell (Nat.le_refl _) _).setCell (Nat.le_refl _) _, (HRV.out.set (by omega) _).set (by omega) _⟩
        · clear hr0 hr1
          obtain ⟨e0, e1, e2, e3⟩ := blk2 K57.out
          have K5V := Lib.hid (heap_set K57.out 0 (.int .i64 9))
          have K4V : Hid ((w7.setCell ⟨w1.heap.size, 0, none⟩ (.int .i64 9)).heap[w.heap.size]? = some (.cells #[.int .i64 0, .int .i64 0] 67 (0, 0))) := Lib.hid (by rw [Below.heap_setCell _ _ _ _ (by simpa using hne)]; exact K47.out)
          have HDV := Lib.hid (HD7.out.setCell (g := w1.heap.size) (o := 0) hs1 (.int .i64 9))
          have HRV := Lib.hid (hr7.out.set (g := w1.heap.size) (o := 0) (by omega) (.int .i64 9))
          clear K47 K57 HD7 hr7
          obtain ⟨z0, z1, z2, z3⟩ := blk2 (heap_set (heap_set K4V.out 0 (.int .i64 9)) 1 (.int .i64 y))
          obtain ⟨c0, c1, c2, c3⟩ := blk2 K5V.out
          obtain ⟨d0, d1, d2, d3⟩ := blk2 K4V.out
          go_wp2
          refine bodyPost_ret (v := .agg #[.int .i64 9, .int .i64 y]) (by simp [results, Try.results83, go_sem, z0, z1, z2]) rfl ?_
          exact ⟨_, _, (p5 + 1 + 1), rfl, by omega, (HDV.out.setCell (Nat.le_refl _) _).setCell (Nat.le_refl _) _, (HRV.out.set (by omega) _).set (by omega) _⟩
      · clear hq0 hq1
        obtain ⟨c0, c1, c2, c3⟩ := blk2 K56.out
        obtain ⟨d0, d1, d2, d3⟩ := blk2 K46.out
        go_wp2_with fail
        refine (pick_x rb (p5 + 1) _ _ (hr6.out.stay ((Below.refl _ _).alloc (Nat.le_refl _) _)) (by omega)).mono ?_
        rintro e w7 ⟨r, rfl, hr0, hr1, hd7, hr7, hzz⟩; clear hzz
        have hcell : ∀ (j : Nat) (v : Value), (#[Value.int .i64 (-1), .int .i64 3, .int .i64 1] : Array Value)[j]? = some v → w7.cell? ⟨w6.heap.size, j, none⟩ = some v :=
          fun j v h => hd7.kp _ _ (by show w6.heap.size ≠ rb; omega) (by rw [World.cell?_alloc_mark]; exact h)
        have hc0 := hcell 0 _ rfl
        have hc1 := hcell 1 _ rfl
        have hc2 := hcell 2 _ rfl
        clear hcell
        have K47 := Lib.hid (hd7.blk (blkOld K46.out) (by omega))
        have K57 := Lib.hid (hd7.blk (blkOld K56.out) (by omega))
        have HD7 := Lib.hid ((HD6.out.alloc _).trans hd7)
        clear hd7 c0 c1 c2 c3 d0 d1 d2 d3
        rcases (by omega : r = 0 ∨ r = 1 ∨ r = 2) with rfl | rfl | rfl
        · clear hr0 hr1
          obtain ⟨e0, e1, e2, e3⟩ := blk2 K57.out
          have K5V := Lib.hid (heap_set K57.out 1 (.int .i64 (-1)))
          have K4V : Hid ((w7.setCell ⟨w1.heap.size, 1, none⟩ (.int .i64 (-1))).heap[w.heap.size]? = some (.cells #[.int .i64 0, .int .i64 0] 67 (0, 0))) := Lib.hid (by rw [Below.heap_setCell _ _ _ _ (by simpa using hne)]; exact K47.out)
          have HDV := Lib.hid (HD7.out.setCell (g := w1.heap.size) (o := 1) hs1 (.int .i64 (-1)))
          have HRV := Lib.hid (hr7.out.set (g := w1.heap.size) (o := 1) (by omega) (.int .i64 (-1)))
          clear K47 K57 HD7 hr7
          obtain ⟨z0, z1, z2, z3⟩ := blk2 (heap_set (heap_set K4V.out 0 (.int .i64 3)) 1 (.int .i64 (-1)))
          obtain ⟨c0, c1, c2, c3⟩ := blk2 K5V.out
          obtain ⟨d0, d1, d2, d3⟩ := blk2 K4V.out
          go_wp2
          refine bodyPost_ret (v := .agg #[.int .i64 3, .int .i64 (-1)]) (by simp [results, Try.results83, go_sem, z0, z1, z2]) rfl ?_
          exact ⟨_, _, (p5 + 1 + 1), rfl, by omega, (HDV.out.setCell (Nat.le_refl _) _).setCell (Nat.le_refl _) _, (HRV.out.set (by omega) _).set (by omega) _⟩
        · clear hr0 hr1
          obtain ⟨e0, e1, e2, e3⟩ := blk2 K57.out
          have K5V := Lib.hid (heap_set K57.out 1 (.int .i64 3))
          have K4V : Hid ((w7.setCell ⟨w1.heap.size, 1, none⟩ (.int .i64 3)).heap[w.heap.size]? = some (.cells #[.int .i64 0, .int .i64 0] 67 (0, 0))) := Lib.hid (by rw [Below.heap_setCell _ _ _ _ (by simpa using hne)]; exact K47.out)
          have HDV := Lib.hid (HD7.out.setCell (g := w1.heap.size) (o := 1) hs1 (.int .i64 3))
          have HRV := Lib.hid (hr7.out.set (g := w1.heap.size) (o := 1) (by omega) (.int .i64 3))
          clear K47 K57 HD7 hr7
          obtain ⟨z0, z1, z2, z3⟩ := blk2 (heap_set (heap_set K4V.out 0 (.int .i64 3)) 1 (.int .i64 3))
          obtain ⟨c0, c1, c2, c3⟩ := blk2 K5V.out
          obtain ⟨d0, d1, d2, d3⟩ := blk2 K4V.out
          go_wp2
          refine bodyPost_ret (v := .agg #[.int .i64 3, .int .i64 3]) (by simp [results, Try.results83, go_sem, z0, z1, z2]) rfl ?_
          exact ⟨_, _, (p5 + 1 + 1), rfl, by omega, (HDV.out.setCell (Nat.le_refl _) _).setCell (Nat.le_refl _) _, (HRV.out.set (by omega) _).set (by omega) _⟩
        · clear hr0 hr1
          obtain ⟨e0, e1, e2, e3⟩ := blk2 K57.out
          have K5V := Lib.hid (heap_set K57.out 1 (.int .i64 1))
          have K4V : Hid ((w7.setCell ⟨w1.heap.size, 1, none⟩ (.int .i64 1)).heap[w.heap.size]? = some (.cells #[.int .i64 0, .int .i64 0] 67 (0, 0))) := Lib.hid (by rw [Below.heap_setCell _ _ _ _ (by simpa using hne)]; exact K47.out)
          have HDV := Lib.hid (HD7.out.setCell (g := w1.heap.size) (o := 1) hs1 (.int .i64 1))
          have HRV := Lib.hid (hr7.out.set (g := w1.heap.size) (o := 1) (by omega) (.int .i64 1))
          clear K47 K57 HD7 hr7
          obtain ⟨z0, z1, z2, z3⟩ := blk2 (heap_set (heap_set K4V.out 0 (.int .i64 3)) 1 (.int .i64 1))
          obtain ⟨c0, c1, c2, c3⟩ := blk2 K5V.out
          obtain ⟨d0, d1, d2, d3⟩ := blk2 K4V.out
          go_wp2
          refine bodyPost_ret (v := .agg #[.int .i64 3, .int .i64 1]) (by simp [results, Try.results83, go_sem, z0, z1, z2]) rfl ?_
          exact ⟨_, _, (p5 + 1 + 1), rfl, by omega, (HDV.out.setCell (Nat.le_refl _) _).setCell (Nat.le_refl _) _, (HRV.out.set (by omega) _).set (by omega) _⟩
  · have hk3d : ((1 + k) == 3) = false := by simp; omega
    clear hk3
    have hkI : 1 + k ≤ 8 := by omega
    obtain ⟨W2, hW2⟩ : ∃ x, x = w1.alloc (.cells #[.int .i64 (1 + k), .int .i64 0] 67) := ⟨_, rfl⟩
    have hb2 : Below w1.heap.size w1 W2 := by rw [hW2]; exact (Below.refl _ _).alloc (Nat.le_refl _) _
    have K42 := Lib.hid (blkBel hb2 K41.out)
    have K52 : Hid (W2.heap[w1.heap.size]? = some (.cells #[.int .i64 (1 + k), .int .i64 0] 67 (0, 0))) := by rw [hW2]; exact blkNew _ _ rfl
    have HR2 := Lib.hid (hr1.out.stay hb2)
    have HD2 := Lib.hid (HD1.out.trans (Dr.below hb2))
    have HW2 := Lib.hid hW2
    clear hW2 hb2 K41 HD1 hr1
    obtain ⟨a0, a1, a2, a3⟩ := blk2 K52.out
    rw [HW2.out] at a0 a1 a2 a3 K42 K52 HD2 HR2
    clear HW2 W2
    obtain ⟨c0, c1, c2, c3⟩ := blk2 K52.out
    obtain ⟨d0, d1, d2, d3⟩ := blk2 K42.out
    go_wp2_with fail
    refine (odd_x rb (p + 1) _ _ HR2.out (by omega) hn1).mono ?_
    rintro e w5 ⟨b, p5, rfl, hp5, hd5, hr5, hzz⟩; clear hzz
    have K45 := Lib.hid (hd5.blk K42.out (by omega))
    have K55 := Lib.hid (hd5.blk K52.out (by omega))
    have HD5 := Lib.hid (HD2.out.trans hd5)
    clear c0 c1 c2 c3 d0 d1 d2 d3 hd5
    cases b
    · skip
      obtain ⟨z0, z1, z2, z3⟩ := blk2 (heap_set (heap_set K45.out 0 (.int .i64 (1 + k))) 1 (.int .i64 0))
      obtain ⟨c0, c1, c2, c3⟩ := blk2 K55.out
      obtain ⟨d0, d1, d2, d3⟩ := blk2 K45.out
      go_wp2
      refine bodyPost_ret (v := .agg #[.int .i64 (1 + k), .int .i64 0]) (by simp [results, Try.results83, go_sem, z0, z1, z2]) rfl ?_
      exact ⟨_, _, p5, rfl, by omega, (HD5.out.setCell (Nat.le_refl _) _).setCell (Nat.le_refl _) _, (hr5.out.set (by omega) _).set (by omega) _⟩
    · skip
      obtain ⟨c0, c1, c2, c3⟩ := blk2 K55.out
      obtain ⟨d0, d1, d2, d3⟩ := blk2 K45.out
      go_wp2_with fail
      refine (pick_x rb p5 _ _ hr5.out (by omega)).mono ?_
      rintro e w6 ⟨q, rfl, hq0, hq1, hd6, hr6, hzz⟩; clear hzz
      have K46 := Lib.hid (hd6.blk K45.out (by omega))
      have K56 := Lib.hid (hd6.blk K55.out (by omega))
      have HD6 := Lib.hid (HD5.out.trans hd6)
      have hlt6 := hr6.out.lt
      have hs6 := HD6.out.size
      have hs16 : w1.heap.size < w6.heap.size := (Array.getElem?_eq_some_iff.1 K56.out).1
      clear c0 c1 c2 c3 d0 d1 d2 d3 hd6
      rcases (by omega : q = 0 ∨ q = 1) with rfl | rfl
      · clear hq0 hq1
        obtain ⟨c0, c1, c2, c3⟩ := blk2 K56.out
        obtain ⟨d0, d1, d2, d3⟩ := blk2 K46.out
        go_wp2_with fail
        refine (pick_x rb (p5 + 1) _ _ (hr6.out.stay ((Below.refl _ _).alloc (Nat.le_refl _) _)) (by omega)).mono ?_
        rintro e w7 ⟨r, rfl, hr0, hr1, hd7, hr7, hzz⟩; clear hzz
        have hcell : ∀ (j : Nat) (v : Value), (#[Value.int .i64 0, .int .i64 9] : Array Value)[j]? = some v → w7.cell? ⟨w6.heap.size, j, none⟩ = some v :=
          fun j v h => hd7.kp _ _ (by show w6.heap.size ≠ rb; omega) (by rw [World.cell?_alloc_mark]; exact h)
        have hc0 := hcell 0 _ rfl
        have hc1 := hcell 1 _ rfl
        clear hcell
        have K47 := Lib.hid (hd7.blk (blkOld K46.out) (by omega))
        have K57 := Lib.hid (hd7.blk (blkOld K56.out) (by omega))
        have HD7 := Lib.hid ((HD6.out.alloc _).trans hd7)
        clear hd7 c0 c1 c2 c3 d0 d1 d2 d3
        rcases (by omega : r = 0 ∨ r = 1) with rfl | rfl
        · clear hr0 hr1
          obtain ⟨e0, e1, e2, e3⟩ := blk2 K57.out
          have K5V := Lib.hid (heap_set K57.out 0 (.int .i64 0))
          have K4V : Hid ((w7.setCell ⟨w1.heap.size, 0, none⟩ (.int .i64 0)).heap[w.heap.size]? = some (.cells #[.int .i64 0, .int .i64 0] 67 (0, 0))) := Lib.hid (by rw [Below.heap_setCell _ _ _ _ (by simpa using hne)]; exact K47.out)
          have HDV := Lib.hid (HD7.out.setCell (g := w1.heap.size) (o := 0) hs1 (.int .i64 0))
          have HRV := Lib.hid (hr7.out.set (g := w1.heap.size) (o := 0) (by omega) (.int .i64 0))
          clear K47 K57 HD7 hr7
          obtain ⟨z0, z1, z2, z3⟩ := blk2 (heap_set (heap_set K4V.out 0 (.int .i64 0)) 1 (.int .i64 0))
          obtain ⟨c0, c1, c2, c3⟩ := blk2 K5V.out
          obtain ⟨d0, d1, d2, d3⟩ := blk2 K4V.out
          go_wp2
          refine bodyPost_ret (v := .agg #[.int .i64 0, .int .i64 0]) (by simp [results, Try.results83, go_sem, z0, z1, z2]) rfl ?_
          exact ⟨_, _, (p5 + 1 + 1), rfl, by omega, (HDV.out.setCell (Nat.le_refl _) _).setCell (Nat.le_refl _) _, (HRV.out.set (by omega) _).set (by omega) _⟩
        · clear hr0 hr1
          obtain ⟨e0, e1, e2, e3⟩ := blk2 K57.out
          have K5V := Lib.hid (heap_set K57.out 0 (.int .i64 9))
          have K4V : Hid ((w7.setCell ⟨w1.heap.size, 0, none⟩ (.int .i64 9)).heap[w.heap.size]? = some (.cells #[.int .i64 0, .int .i64 0] 67 (0, 0))) := Lib.hid (by rw [Below.heap_setCell _ _ _ _ (by simpa using hne)]; exact K47.out)
          have HDV := Lib.hid (HD7.out.setCell (g := w1.heap.size) (o := 0) hs1 (.int .i64 9))
          have HRV := Lib.hid (hr7.out.set (g := w1.heap.size) (o := 0) (by omega) (.int .i64 9))
          clear K47 K57 HD7 hr7
          obtain ⟨z0, z1, z2, z3⟩ := blk2 (heap_set (heap_set K4V.out 0 (.int .i64 9)) 1 (.int .i64 0))
          obtain ⟨c0, c1, c2, c3⟩ := blk2 K5V.out
          obtain ⟨d0, d1, d2, d3⟩ := blk2 K4V.out
          go_wp2
          refine bodyPost_ret (v := .agg #[.int .i64 9, .int .i64 0]) (by simp [results, Try.results83, go_sem, z0, z1, z2]) rfl ?_
          exact ⟨_, _, (p5 + 1 + 1), rfl, by omega, (HDV.out.setCell (Nat.le_refl _) _).setCell (Nat.le_refl _) _, (HRV.out.set (by omega) _).set (by omega) _⟩
      · clear hq0 hq1
        obtain ⟨c0, c1, c2, c3⟩ := blk2 K56.out
        obtain ⟨d0, d1, d2, d3⟩ := blk2 K46.out
        go_wp2_with fail
        refine (pick_x rb (p5 + 1) _ _ (hr6.out.stay ((Below.refl _ _).alloc (Nat.le_refl _) _)) (by omega)).mono ?_
        rintro e w7 ⟨r, rfl, hr0, hr1, hd7, hr7, hzz⟩; clear hzz
        have hcell : ∀ (j : Nat) (v : Value), (#[Value.int .i64 (-1), .int .i64 3, .int .i64 1] : Array Value)[j]? = some v → w7.cell? ⟨w6.heap.size, j, none⟩ = some v :=
          fun j v h => hd7.kp _ _ (by show w6.heap.size ≠ rb; omega) (by rw [World.cell?_alloc_mark]; exact h)
        have hc0 := hcell 0 _ rfl
        have hc1 := hcell 1 _ rfl
        have hc2 := hcell 2 _ rfl
        clear hcell
        have K47 := Lib.hid (hd7.blk (blkOld K46.out) (by omega))
        have K57 := Lib.hid (hd7.blk (blkOld K56.out) (by omega))
        have HD7 := Lib.hid ((HD6.out.alloc _).trans hd7)
        clear hd7 c0 c1 c2 c3 d0 d1 d2 d3
        rcases (by omega : r = 0 ∨ r = 1 ∨ r = 2) with rfl | rfl | rfl
        · clear hr0 hr1
          obtain ⟨e0, e1, e2, e3⟩ := blk2 K57.out
          have K5V := Lib.hid (heap_set K57.out 1 (.int .i64 (-1)))
          have K4V : Hid ((w7.setCell ⟨w1.heap.size, 1, none⟩ (.int .i64 (-1))).heap[w.heap.size]? = some (.cells #[.int .i64 0, .int .i64 0] 67 (0, 0))) := Lib.hid (by rw [Below.heap_setCell _ _ _ _ (by simpa using hne)]; exact K47.out)
          have HDV := Lib.hid (HD7.out.setCell (g := w1.heap.size) (o := 1) hs1 (.int .i64 (-1)))
          have HRV := Lib.hid (hr7.out.set (g := w1.heap.size) (o := 1) (by omega) (.int .i64 (-1)))
          clear K47 K57 HD7 hr7
          obtain ⟨z0, z1, z2, z3⟩ := blk2 (heap_set (heap_set K4V.out 0 (.int .i64 (1 + k))) 1 (.int .i64 (-1)))
          obtain ⟨c0, c1, c2, c3⟩ := blk2 K5V.out
          obtain ⟨d0, d1, d2, d3⟩ := blk2 K4V.out
          go_wp2
          refine bodyPost_ret (v := .agg #[.int .i64 (1 + k), .int .i64 (-1)]) (by simp [results, Try.results83, go_sem, z0, z1, z2]) rfl ?_
          exact ⟨_, _, (p5 + 1 + 1), rfl, by omega, (HDV.out.setCell (Nat.le_refl _) _).setCell (Nat.le_refl _) _, (HRV.out.set (by omega) _).set (by omega) _⟩
        · clear hr0 hr1
          obtain ⟨e0, e1, e2, e3⟩ := blk2 K57.out
          have K5V := Lib.hid (heap_set K57.out 1 (.int .i64 3))
          have K4V : Hid ((w7.setCell ⟨w1.heap.size, 1, none⟩ (.int .i64 3)).heap[w.heap.size]? = some (.cells #[.int .i64 0, .int .i64 0] 67 (0, 0))) := Lib.hid (by rw [Below.heap_setCell _ _ _ _ (by simpa using hne)]; exact K47.out)
          have HDV := Lib.hid (HD7.out.setCell (g := w1.heap.size) (o := 1) hs1 (.int .i64 3))
          have HRV := Lib.hid (hr7.out.set (g := w1.heap.size) (o := 1) (by omega) (.int .i64 3))
          clear K47 K57 HD7 hr7
          obtain ⟨z0, z1, z2, z3⟩ := blk2 (heap_set (heap_set K4V.out 0 (.int .i64 (1 + k))) 1 (.int .i64 3))
          obtain ⟨c0, c1, c2, c3⟩ := blk2 K5V.out
          obtain ⟨d0, d1, d2, d3⟩ := blk2 K4V.out
          go_wp2
          refine bodyPost_ret (v := .agg #[.int .i64 (1 + k), .int .i64 3]) (by simp [results, Try.results83, go_sem, z0, z1, z2]) rfl ?_
          exact ⟨_, _, (p5 + 1 + 1), rfl, by omega, (HDV.out.setCell (Nat.le_refl _) _).setCell (Nat.le_refl _) _, (HRV.out.set (by omega) _).set (by omega) _⟩
        · clear hr0 hr1
          obtain ⟨e0, e1, e2, e3⟩ := blk2 K57.out
          have K5V := Lib.hid (heap_set K57.out 1 (.int .i64 1))
          have K4V : Hid ((w7.setCell ⟨w1.heap.size, 1, none⟩ (.int .i64 1)).heap[w.heap.size]? = some (.cells #[.int .i64 0, .int .i64 0] 67 (0, 0))) := Lib.hid (by rw [Below.heap_setCell _ _ _ _ (by simpa using hne)]; exact K47.out)
          have HDV := Lib.hid (HD7.out.setCell (g := w1.heap.size) (o := 1) hs1 (.int .i64 1))
          have HRV := Lib.hid (hr7.out.set (g := w1.heap.size) (o := 1) (by omega) (.int .i64 1))
          clear K47 K57 HD7 hr7
          obtain ⟨z0, z1, z2, z3⟩ := blk2 (heap_set (heap_set K4V.out 0 (.int .i64 (1 + k))) 1 (.int .i64 1))
          obtain ⟨c0, c1, c2, c3⟩ := blk2 K5V.out
          obtain ⟨d0, d1, d2, d3⟩ := blk2 K4V.out
          go_wp2
          refine bodyPost_ret (v := .agg #[.int .i64 (1 + k), .int .i64 1]) (by simp [results, Try.results83, go_sem, z0, z1, z2]) rfl ?_
          exact ⟨_, _, (p5 + 1 + 1), rfl, by omega, (HDV.out.setCell (Nat.le_refl _) _).setCell (Nat.le_refl _) _, (HRV.out.set (by omega) _).set (by omega) _⟩
/-- A list of parts was drawn. -/
def DxE (rb p c m : Nat) (w : World) (e : Ending) (w' : World) : Prop := ∃ (v : Value) (xs : List (Int × Int)) (p' : Nat), e = .returned v ∧ xs.length ≤ m ∧ p' ≤ p + c ∧ Dr rb w w' ∧ Hid (Rdx w' rb p') ∧ Hid (Pairs (w.heap.size ≤ ·) w' v xs)
theorem own2Tail {w : World} {base : Nat} {e : TypeId} {v : Value} {x : Int × Int} {xs : List (Int × Int)} (h : Own2 w base e v (x :: xs)) :
    ∃ g cap, v = .slice (some ⟨g, 0, none⟩) (xs.length + 1) (cap + 1) ∧ xs.length ≤ cap ∧ cap + 1 ≤ 9223372036854775807 ∧ (cap = 0 → Pairs (base ≤ ·) w (.slice (some ⟨g, 0, none⟩) 0 0) xs) ∧
      Pairs (base ≤ ·) w (.slice (some ⟨g, 2, none⟩) xs.length cap) xs := by
  have hp := h.rd
  obtain ⟨hl, hh⟩ := h
  rcases hh with ⟨_, hn⟩ | ⟨g, cap, cur, rfl, hb, hg, hnc, hcm, hcs, ht⟩
  · simp at hn
  · simp only [List.length_cons] at hnc
    obtain ⟨c, rfl⟩ : ∃ c, cap = c + 1 := ⟨cap - 1, by omega⟩
    refine ⟨g, c, rfl, by omega, by unfold maxLen at hcm; omega, fun h0 => ?_, ?_⟩
    · have : xs = [] := List.eq_nil_of_length_eq_zero (by omega)
      subst this
      exact ⟨_, 0, rfl, ⟨Nat.zero_le _, Nat.le_refl _, fun h => by cases h⟩, fun i hi => absurd hi (by simp [cells2])⟩
    · obtain ⟨a', cap', e, hn, hc⟩ := hp
      cases e
      simp only [List.length_cons] at hn
      refine ⟨_, c, rfl, ⟨by omega, by omega, fun h => by cases h⟩, fun i hi => ?_⟩
      obtain ⟨b, off, e, hs, hcell⟩ := hc (i + 2) (by rw [length_cells2] at hi ⊢; simp only [List.length_cons]; omega)
      cases e
      refine ⟨g, 2, rfl, hs, ?_⟩
      rw [show 2 + i = 0 + (i + 2) by omega, hcell]
      rfl
/-- How many elements a slice has. -/
def lenP : Value → Nat
  | .slice _ n _ => n
  | _ => 0
set_option maxHeartbeats 2000000 in
theorem l20Expr_x (rb p : Nat) (n : Int) (w : World) (h : Rdx w rb p) (hp : p ≤ 600000) (hn1 : -9223372036854775808 < n) :
    Calls Try.prog 39 #[.pointer (some ⟨rb, 0, none⟩), .int .i64 n] w (DxE rb p 100 61 w) := by
  have hlt0 := h.lt
  have H := Lib.hid h; clear h
  go_enter Try.func39, Try.ntmps39
  go_wp2_with fail
  refine (pick_x rb p _ w H.out (by omega)).mono ?_
  rintro e w1 ⟨k, rfl, hk0, hk1, hd1, hr1, hzz⟩; clear hzz
  have hk2 : k ≤ 2 := by omega
  clear hk1 H
  have hmk : Calls Try.prog 80 #[.pointer (some ⟨rb, 0, none⟩), .int .i64 (1 + k), .bool false] w1 (DrP rb (p + 1) 60 15 w1) := by
    rcases (by omega : k = 0 ∨ k = 1 ∨ k = 2) with rfl | rfl | rfl
    · exact l20Make_c 1 (by omega) rb (p + 1) false w1 hr1.out (by omega)
    · exact l20Make_c 2 (by omega) rb (p + 1) false w1 hr1.out (by omega)
    · exact l20Make_c 3 (by omega) rb (p + 1) false w1 hr1.out (by omega)
  have Hmk := Lib.hid hmk
  have hs1 := hd1.size
  have HD1 := Lib.hid hd1
  clear hmk hd1 hr1
  go_wp2_with fail
  refine Hmk.out.mono ?_
  rintro e w2 ⟨v2, xs, p2, rfl, ⟨hx1, hx15⟩, hp2, hd2, hr2, ho2'⟩
  have ho2 : Hid (Own2 w2 w.heap.size 67 v2 xs) := Lib.hid (ownBase ho2'.out hs1)
  have HD2 := Lib.hid (HD1.out.trans hd2)
  clear hd2 ho2' Hmk HD1
  obtain ⟨a2, c2, rfl, _⟩ := ho2.out.shape
  go_wp2_with fail
  refine (odd_x rb p2 _ _ hr2.out (by omega) hn1).mono ?_
  rintro e w3 ⟨b, p3, rfl, hp3, hd3, hr3, hzz⟩; clear hzz
  have ho3 : Hid (Own2 w3 w.heap.size 67 (.slice a2 xs.length c2) xs) := Lib.hid (hd3.own ho2.out hlt0)
  have HD3 := Lib.hid (HD2.out.trans hd3)
  clear hd3 ho2 HD2 hr2
  cases b
  · go_wp2
    go_ret
    exact ⟨_, xs, p3, rfl, by omega, by omega, HD3.out, hr3, Lib.hid ho3.out.rd⟩
  · go_wp2_with fail
    refine (pick_x rb p3 _ _ hr3.out (by omega)).mono ?_
    rintro e w4 ⟨q, rfl, hq0, hq1, hd4, hr4, hzz⟩; clear hzz
    have ho4 : Hid (Own2 w4 w.heap.size 67 (.slice a2 xs.length c2) xs) := Lib.hid (hd4.own ho3.out hlt0)
    have HD4 := Lib.hid (HD3.out.trans hd4)
    have hs4 := HD4.out.size
    clear hd4 ho3 HD3 hr3
    rcases (by omega : q = 0 ∨ q = 1 ∨ q = 2 ∨ q = 3) with rfl | rfl | rfl | rfl
    · clear hq0 hq1
      obtain ⟨x, xt, rfl⟩ : ∃ x t, xs = x :: t := by
        cases xs with
        | nil => simp at hx1
        | cons x t => exact ⟨x, t, rfl⟩
      obtain ⟨g, cap, e, hnc, hcm, hz0, hz1⟩ := own2Tail ho4.out
      injection e with e1 e2 e3
      subst e1 e3
      have Hz0 := Lib.hid hz0
      have Hz1 := Lib.hid hz1
      clear hz0 hz1 e2 ho4
      simp only [List.length_cons] at hx1 hx15 ⊢
      by_cases hc0 : cap = 0
      · subst hc0
        have hl0 : xt.length = 0 := by omega
        have Hz := Lib.hid (Hz0.out rfl)
        rw [hl0]
        go_wp2
        go_ret
        exact ⟨_, xt, p3 + 1, rfl, by omega, by omega, HD4.out, hr4, Hz⟩
      · have hcp : 0 < cap := by omega
        go_wp2
        go_ret
        exact ⟨_, xt, p3 + 1, rfl, by omega, by omega, HD4.out, hr4, Hz1⟩
    · clear hq0 hq1
      go_wp2_with fail
      refine (l20Part_x rb (p3 + 1) 1 _ hr4.out (by omega) (by omega)).mono ?_
      rintro e w5 ⟨x, y, p5, rfl, hp5, hd5, hr5⟩
      have ho5 : Hid (Own2 w5 w.heap.size 67 (.slice a2 xs.length c2) xs) := Lib.hid (hd5.own ho4.out hlt0)
      have HD5 := Lib.hid (HD4.out.trans hd5)
      have hs5 := HD5.out.size
      clear hd5 ho4 HD4 hr4
      go_wp2_with (at_builtin; refine app2 elPart (by decide) rfl (.tmp 29) (.tmp 32) rfl w.heap.size _ xs x y w5 rfl rfl rfl ho5.out (by omega) hs5 ?_; intro v8 w8 h8 hg8)
      go_ret
      exact ⟨_, _, p5, rfl, by rw [List.length_append, List.length_singleton]; omega, by omega, HD5.out.grown hg8 (fun b hb => (World.ownsRow.lt ho5.out b hb).1), Lib.hid (hr5.out.grow hg8 fun b hb => by have := (World.ownsRow.lt ho5.out b hb).1; omega), Lib.hid h8.out.rd⟩
    · clear hq0 hq1
      go_wp2_with (at_builtin; refine app2 elPart (by decide) rfl (.tmp 36) (.tmp 38) rfl w.heap.size _ xs 2 0 w4 rfl rfl rfl ho4.out (by omega) hs4 ?_; intro v8 w8 h8 hg8)
      go_ret
      exact ⟨_, _, p3 + 1, rfl, by rw [List.length_append, List.length_singleton]; omega, by omega, HD4.out.grown hg8 (fun b hb => (World.ownsRow.lt ho4.out b hb).1), Lib.hid (hr4.out.grow hg8 fun b hb => by have := (World.ownsRow.lt ho4.out b hb).1; omega), Lib.hid h8.out.rd⟩
    · clear hq0 hq1
      go_wp2_with fail
      go_loopw [5] (fun v wr => ∃ (ys : List (Int × Int)), ys.length ≤ 61 ∧ Hid (Dr rb w wr) ∧ Hid (Rdx wr rb (p3 + 1)) ∧ Hid (Own2 wr w.heap.size 67 v ys)) (fun v _ => 62 - lenP v)
      case atStart => exact ⟨xs, by omega, HD4, hr4, ho4⟩
      case round =>
        obtain ⟨ys, hy, hd, hr, ho⟩ := hrel
        obtain ⟨a, c, rfl, _⟩ := ho.out.shape
        have hs := hd.out.size
        clear hr4 ho4 HD4 hs4
        by_cases hlt : ys.length ≤ 60
        · have hltI : (ys.length : Int) ≤ 60 := by omega
          go_wp2_with (at_builtin; refine app2 elPart (by decide) rfl (.tmp 19) (.tmp 21) rfl w.heap.size _ ys 8 0 wr rfl rfl rfl ho.out (by omega) hs ?_; intro v8 w8 h8 hg8)
          obtain ⟨a8, c8, rfl, _⟩ := h8.out.shape
          go_roundw
          case rel => exact ⟨_, by rw [List.length_append, List.length_singleton]; omega, Lib.hid (hd.out.grown hg8 (fun b hb => (World.ownsRow.lt ho.out b hb).1)), Lib.hid (hr.out.grow hg8 fun b hb => by have := (World.ownsRow.lt ho.out b hb).1; omega), h8⟩
          case measure => simp [lenP]; omega
        · have hltI : (60 : Int) < (ys.length : Int) := by omega
          go_wp2
          go_ret
          exact ⟨_, ys, p3 + 1, rfl, by omega, by omega, hd.out, hr, Lib.hid ho.out.rd⟩
/-- The call answers a list of parts to be read. -/
def RDp (w : World) (e : Ending) (w' : World) : Prop := ∃ (v : Value) (xs : List (Int × Int)), e = .returned v ∧ xs.length ≤ 61 ∧ Below w.heap.size w w' ∧ Hid (Pairs (w.heap.size ≤ ·) w' v xs)
end Go.Proofs.Ytbcjhiponbfbnaa
