/- Expressions drawn: at most 15 parts, at most 60 steps of the reader. -/
import Derived.Test.YtbcjhiponbfbnaaGE
set_option linter.unusedSimpArgs false
set_option linter.unusedVariables false
set_option linter.unusedSectionVars false
namespace Go.Proofs.Ytbcjhiponbfbnaa
open Go.RowKit
set_option maxRecDepth 100000
variable {S T : Nat → Prop}
/-- An expression of at most m parts was drawn in at most c steps. -/
def DrP (rb p c m : Nat) (w : World) (e : Ending) (w' : World) : Prop := ∃ (v : Value) (xs : List (Int × Int)) (p' : Nat), e = .returned v ∧ (1 ≤ xs.length ∧ xs.length ≤ m) ∧ p' ≤ p + c ∧ Dr rb w w' ∧ Hid (Rdx w' rb p') ∧ Hid (Own2 w' w.heap.size 67 v xs)
theorem own2One (w : World) (x y : Int) {base : Nat} (hb : base ≤ w.heap.size) : Own2 (w.alloc (.cells #[.int .i64 x, .int .i64 y] 67)) base 67 (.slice (some ⟨w.heap.size, 0, none⟩) 1 1) [(x, y)] :=
  ⟨rfl, .inr ⟨w.heap.size, 1, _, rfl, hb, blkNew _ _ rfl, Nat.le_refl _, by unfold maxLen; omega, by simp, by simp [cells2]⟩⟩
theorem own2App {w : World} {base n m : Nat} {e : TypeId} {v : Value} {xs ys : List (Int × Int)} (h : w.ownsRow base e 2 v (n + m) (cells2 xs ++ cells2 ys)) (hn : n = xs.length := by rfl) (hm : m = ys.length := by rfl) : Own2 w base e v (xs ++ ys) := by
  subst hn; subst hm
  unfold Own2
  rw [List.length_append, cells2_app]
  exact h
theorem DrP.one {rb p p' c m : Nat} {w w' : World} {x y : Int} (hd : Dr rb w w') (hr : Rdx w' rb p') (hp : p' ≤ p + c) (hm : 1 ≤ m) : DrP rb p c m w (.returned (.slice (some ⟨w'.heap.size, 0, none⟩) 1 1)) (w'.alloc (.cells #[.int .i64 x, .int .i64 y] 67)) :=
  ⟨_, [(x, y)], p', rfl, ⟨Nat.le_refl 1, hm⟩, hp, hd.trans (Dr.below ((Below.refl _ _).alloc (Nat.le_refl _) _)), Lib.hid (hr.stay ((Below.refl _ _).alloc (Nat.le_refl _) _)), Lib.hid (own2One w' x y hd.size)⟩
set_option maxHeartbeats 2000000 in
theorem l20Make0_c (rb p : Nat) (plain : Bool) (w : World) (h : Rdx w rb p) (hp : p ≤ 890000) : Calls Try.prog 80 #[.pointer (some ⟨rb, 0, none⟩), .int .i64 0, .bool plain] w (DrP rb p 3 1 w) := by
  have H := Lib.hid h; clear h
  go_enter Try.func80, Try.ntmps80
  go_wp2_with fail
  refine (pick_x rb p _ w H.out (by omega)).mono ?_
  rintro e w2 ⟨r, rfl, hr0, hr1, hd2, hr2, hz2⟩
  have hD2 := Lib.hid (hd2)
  clear hd2 hz2
  have hlt2 := hr2.out.lt
  have hr9 : r ≤ 8 := by omega
  clear hr1
  by_cases h0 : r = 0
  · subst h0
    go_wp2
    go_ret
    exact DrP.one hD2.out hr2.out (by omega) (by omega)
  · have h0' : (r == 0) = false := by simpa using h0
    by_cases h1 : r = 1
    · subst h1
      clear h0 h0'
      go_wp2_with fail
      refine (pick_x rb _ _ _ (hr2.out.stay ((Below.refl _ _).alloc (Nat.le_refl _) _)) (by omega)).mono ?_
      rintro e w3 ⟨q, rfl, hq0, hq1, hd3, hr3, hz3⟩
      have hcell : ∀ (j : Nat) (v : Value), #[Value.int .i64 1, .int .i64 2, .int .i64 3][j]? = some v → w3.cell? ⟨w2.heap.size, j, none⟩ = some v :=
        fun j v h => hd3.kp _ _ (by show w2.heap.size ≠ rb; omega) (by rw [World.cell?_alloc_mark]; exact h)
      have hc0 := hcell 0 _ rfl
      have hc1 := hcell 1 _ rfl
      have hc2 := hcell 2 _ rfl
      clear hcell
      have hD3 := Lib.hid ((hD2.out.trans (Dr.below ((Below.refl _ _).alloc (Nat.le_refl _) _))).trans hd3)
      clear hd3 hD2 hz3
      rcases (by omega : q = 0 ∨ q = 1 ∨ q = 2) with rfl | rfl | rfl
      all_goals
        clear hq1
        go_wp2
        go_ret
        exact DrP.one hD3.out hr3.out (by omega) (by omega)
    · have h1' : (r == 1) = false := by simpa using h1
      go_wp2_with fail
      refine (pick_x rb _ _ _ hr2.out (by omega)).mono ?_
      rintro e w3 ⟨q, rfl, hq0, hq1, hd3, hr3, hz3⟩
      have hD3 := Lib.hid (hD2.out.trans hd3)
      clear hd3 hD2 hz3
      go_wp2
      go_ret
      exact DrP.one hD3.out hr3.out (by omega) (by omega)
set_option maxHeartbeats 8000000 in
theorem l20Make1_c (d rb p P M B : Nat) (plain : Bool) (w : World) (h : Rdx w rb p) (hB : B ≤ 890000) (hp : p ≤ B) (hd9 : d ≤ 100) (hP : P ≤ 1000) (hM : 1 ≤ M ∧ M ≤ 1000)
    (IH : ∀ (p : Nat) (w : World), Rdx w rb p → p ≤ B + 1010 → Calls Try.prog 80 #[.pointer (some ⟨rb, 0, none⟩), .int .i64 d, .bool plain] w (DrP rb p P M w)) :
    Calls Try.prog 80 #[.pointer (some ⟨rb, 0, none⟩), .int .i64 ((d : Int) + 1), .bool plain] w (DrP rb p (2 * P + 4) (2 * M + 1) w) := by
  have H := Lib.hid h; clear h
  have hdI : ((d : Int) + 1 == 0) = false := by simp; omega
  have hdp : ¬ ((d : Int) + 1 = 0) := by omega
  have hMl := hM.1
  have hMu := hM.2
  clear hM
  have hrbw := H.out.lt
  go_enter Try.func80, Try.ntmps80
  go_wp2_with fail
  refine (pick_x rb p _ w H.out (by omega)).mono ?_
  rintro e w1 ⟨r1, rfl, hr10, hr11, hd1, hr1, hz1⟩
  have Hz1 := Lib.hid hz1; clear hz1
  by_cases hz : r1 = 0
  · subst hz
    clear hr10 hr11
    go_wp2_with fail
    refine (pick_x rb (p + 1) _ w1 hr1.out (by omega)).mono ?_
    rintro e w2 ⟨r, rfl, hr0, hr1, hd2, hr2, hz2⟩
    have hD2 := Lib.hid (hd1.trans (hd2))
    clear hd2 hz2
    have hlt2 := hr2.out.lt
    have hr9 : r ≤ 8 := by omega
    clear hr1
    by_cases h0 : r = 0
    · subst h0
      go_wp2
      go_ret
      exact DrP.one hD2.out hr2.out (by omega) (by omega)
    · have h0' : (r == 0) = false := by simpa using h0
      by_cases h1 : r = 1
      · subst h1
        clear h0 h0'
        go_wp2_with fail
        refine (pick_x rb _ _ _ (hr2.out.stay ((Below.refl _ _).alloc (Nat.le_refl _) _)) (by omega)).mono ?_
        rintro e w3 ⟨q, rfl, hq0, hq1, hd3, hr3, hz3⟩
        have hcell : ∀ (j : Nat) (v : Value), #[Value.int .i64 1, .int .i64 2, .int .i64 3][j]? = some v → w3.cell? ⟨w2.heap.size, j, none⟩ = some v :=
          fun j v h => hd3.kp _ _ (by show w2.heap.size ≠ rb; omega) (by rw [World.cell?_alloc_mark]; exact h)
        have hc0 := hcell 0 _ rfl
        have hc1 := hcell 1 _ rfl
        have hc2 := hcell 2 _ rfl
        clear hcell
        have hD3 := Lib.hid ((hD2.out.trans (Dr.below ((Below.refl _ _).alloc (Nat.le_refl _) _))).trans hd3)
        clear hd3 hD2 hz3
        rcases (by omega : q = 0 ∨ q = 1 ∨ q = 2) with rfl | rfl | rfl
        all_goals
          clear hq1
          go_wp2
          go_ret
          exact DrP.one hD3.out hr3.out (by omega) (by omega)
      · have h1' : (r == 1) = false := by simpa using h1
        go_wp2_with fail
        refine (pick_x rb _ _ _ hr2.out (by omega)).mono ?_
        rintro e w3 ⟨q, rfl, hq0, hq1, hd3, hr3, hz3⟩
        have hD3 := Lib.hid (hD2.out.trans hd3)
        clear hd3 hD2 hz3
        go_wp2
        go_ret
        exact DrP.one hD3.out hr3.out (by omega) (by omega)
  · have hz' : (r1 == 0) = false := by simpa using hz
    go_wp2_with fail
    refine (pick_x rb _ _ _ (hr1.out.stay ((Below.refl _ _).alloc (Nat.le_refl _) _)) (by omega)).mono ?_
    rintro e w2 ⟨q, rfl, hq0, hq1, hd2, hr2, hz2⟩
    have hlt1 := hr1.out.lt
    have hcell : ∀ (j : Nat) (v : Value), #[Value.int .i64 4, .int .i64 4, .int .i64 4, .int .i64 5, .int .i64 5, .int .i64 8, .int .i64 8, .int .i64 6, .int .i64 7][j]? = some v → w2.cell? ⟨w1.heap.size, j, none⟩ = some v :=
      fun j v h => hd2.kp _ _ (by show w1.heap.size ≠ rb; omega) (by rw [World.cell?_alloc_mark]; exact h)
    obtain ⟨j, rfl⟩ := Int.eq_ofNat_of_zero_le hq0
    have hj : j < 9 := by omega
    clear hq0 hq1
    obtain ⟨k, hk4, hk8, hck⟩ : ∃ k : Int, 4 ≤ k ∧ k ≤ 8 ∧ w2.cell? ⟨w1.heap.size, j, none⟩ = some (.int .i64 k) := by
      rcases (by omega : j = 0 ∨ j = 1 ∨ j = 2 ∨ j = 3 ∨ j = 4 ∨ j = 5 ∨ j = 6 ∨ j = 7 ∨ j = 8) with rfl | rfl | rfl | rfl | rfl | rfl | rfl | rfl | rfl
      · exact ⟨4, by omega, by omega, hcell 0 _ rfl⟩
      · exact ⟨4, by omega, by omega, hcell 1 _ rfl⟩
      · exact ⟨4, by omega, by omega, hcell 2 _ rfl⟩
      · exact ⟨5, by omega, by omega, hcell 3 _ rfl⟩
      · exact ⟨5, by omega, by omega, hcell 4 _ rfl⟩
      · exact ⟨8, by omega, by omega, hcell 5 _ rfl⟩
      · exact ⟨8, by omega, by omega, hcell 6 _ rfl⟩
      · exact ⟨6, by omega, by omega, hcell 7 _ rfl⟩
      · exact ⟨7, by omega, by omega, hcell 8 _ rfl⟩
    clear hcell
    have hjI : (j : Int) < 9 := by omega
    have hD2 := Lib.hid ((hd1.trans (Dr.below ((Below.refl _ _).alloc (Nat.le_refl _) _))).trans hd2)
    have hs2 : w.heap.size ≤ w2.heap.size := hD2.out.size
    clear hd1 hd2 hz2 hlt1 hr1 H Hz1
    have K4 := 0
    clear K4
    have key : plain = false ∧ k = 4 ∨ plain = false ∧ k = 5 ∨ plain = false ∧ k = 6 ∨ plain = false ∧ k = 7 ∨ plain = false ∧ k = 8 ∨ plain = true ∧ k = 4 ∨ plain = true ∧ k = 5 ∨ plain = true ∧ k = 6 ∨ plain = true ∧ k = 7 ∨ plain = true ∧ k = 8 := by
      cases plain
      · simp; omega
      · simp; omega
    clear hk4 hk8
    rcases key with ⟨rfl, rfl⟩ | ⟨rfl, rfl⟩ | ⟨rfl, rfl⟩ | ⟨rfl, rfl⟩ | ⟨rfl, rfl⟩ | ⟨rfl, rfl⟩ | ⟨rfl, rfl⟩ | ⟨rfl, rfl⟩ | ⟨rfl, rfl⟩ | ⟨rfl, rfl⟩
    · go_wp2_with fail
      refine (IH _ w2 hr2.out (by omega)).mono ?_
      rintro e w3 ⟨v3, xs, p3, rfl, hx3, hp3, hd3, hr3, ho3'⟩
      obtain ⟨a3, c3, rfl, _⟩ := ho3'.out.shape
      have hD3 := Lib.hid (hD2.out.trans hd3)
      have hs3 : w.heap.size ≤ w3.heap.size := Nat.le_trans hs2 hd3.size
      have ho3 : Hid (Own2 w3 w.heap.size 67 (.slice a3 xs.length c3) xs) := Lib.hid (ownBase ho3'.out hs2)
      clear hd3 ho3'
      go_wp2_with fail
      refine (pick_x rb p3 _ w3 hr3.out (by omega)).mono ?_
      rintro e w4 ⟨r4, rfl, hr40, hr41, hd4, hr4, hz4⟩
      have hD4 := Lib.hid (hD3.out.trans hd4)
      have ho4 : Hid (Own2 w4 w.heap.size 67 (.slice a3 xs.length c3) xs) := Lib.hid (hd4.own ho3.out hrbw)
      have hs4 : w.heap.size ≤ w4.heap.size := by omega
      have hz4' := Lib.hid hz4
      clear hd4 hz4
      by_cases h4 : r4 = 0
      · subst h4
        clear hr40 hr41
        go_wp2_with (at_builtin; first
          | (refine app2 elPart (by decide) rfl (.tmp 73) (.tmp 76) rfl w.heap.size _ (xs ++ xs) 4 0 w8 rfl rfl rfl h8.out hln8 hs8 ?_; intro v9 w9 h9 hg9)
          | (refine appMany (S := (w.heap.size ≤ ·)) elPart (by decide) rfl (.tmp 63) (.tmp 64) rfl w.heap.size _ _ xs.length xs.length (cells2 xs) (cells2 xs) w4 rfl rfl ho4.out ho4.out.rd (by rw [length_cells2]; omega) (cells2_one' xs) (by omega) hs4 ?_; intro v8 w8 h8' hg8; have h8 := Lib.hid (own2App h8'.out); have hs8 : w.heap.size ≤ w8.heap.size := Nat.le_trans hs4 hg8.size; have hln8 : (xs ++ xs).length ≤ 1000000000 := (by rw [List.length_append]; omega)))
        go_ret
        exact ⟨_, _, p3 + 1, rfl, by rw [List.length_append, List.length_append, List.length_singleton]; omega, by omega, (hD4.out.grown hg8 (fun b hb => (World.ownsRow.lt ho4.out b hb).1)).grown hg9 (fun b hb => (World.ownsRow.lt h8.out b hb).1), Lib.hid ((hr4.out.grow hg8 fun b hb => by have := (World.ownsRow.lt ho4.out b hb).1; omega).grow hg9 fun b hb => by have := (World.ownsRow.lt h8.out b hb).1; omega), h9⟩
      · have h4' : (r4 == 0) = false := by simpa using h4
        go_wp2_with fail
        refine (IH _ w4 hr4.out (by omega)).mono ?_
        rintro e w5 ⟨v5, ys, p5, rfl, hy5, hp5, hd5, hr5, ho5⟩
        obtain ⟨a5, c5, rfl, _⟩ := ho5.out.shape
        have hD5 := Lib.hid (hD4.out.trans hd5)
        have ho45 := Lib.hid (hd5.own ho4.out hrbw)
        have hs5 : w.heap.size ≤ w5.heap.size := Nat.le_trans hs4 hd5.size
        clear hd5
        go_wp2_with (at_builtin; first
          | (refine app2 elPart (by decide) rfl (.tmp 73) (.tmp 76) rfl w.heap.size _ (xs ++ ys) 4 0 w8 rfl rfl rfl h8.out hln8 hs8 ?_; intro v9 w9 h9 hg9)
          | (refine appMany (S := (w4.heap.size ≤ ·)) elPart (by decide) rfl (.tmp 66) (.tmp 71) rfl w.heap.size _ _ xs.length ys.length (cells2 xs) (cells2 ys) w5 rfl rfl ho45.out ho5.out.rd (by rw [length_cells2]; omega) (cells2_one' ys) (by omega) hs5 ?_; intro v8 w8 h8' hg8; have h8 := Lib.hid (own2App h8'.out); have hs8 : w.heap.size ≤ w8.heap.size := Nat.le_trans hs5 hg8.size; have hln8 : (xs ++ ys).length ≤ 1000000000 := (by rw [List.length_append]; omega)))
        go_ret
        exact ⟨_, _, p5, rfl, by rw [List.length_append, List.length_append, List.length_singleton]; omega, by omega, (hD5.out.grown hg8 (fun b hb => (World.ownsRow.lt ho45.out b hb).1)).grown hg9 (fun b hb => (World.ownsRow.lt h8.out b hb).1), Lib.hid ((hr5.out.grow hg8 fun b hb => by have := (World.ownsRow.lt ho45.out b hb).1; omega).grow hg9 fun b hb => by have := (World.ownsRow.lt h8.out b hb).1; omega), h9⟩
    · go_wp2_with fail
      refine (IH _ w2 hr2.out (by omega)).mono ?_
      rintro e w3 ⟨v3, xs, p3, rfl, hx3, hp3, hd3, hr3, ho3'⟩
      obtain ⟨a3, c3, rfl, _⟩ := ho3'.out.shape
      have hD3 := Lib.hid (hD2.out.trans hd3)
      have hs3 : w.heap.size ≤ w3.heap.size := Nat.le_trans hs2 hd3.size
      have ho3 : Hid (Own2 w3 w.heap.size 67 (.slice a3 xs.length c3) xs) := Lib.hid (ownBase ho3'.out hs2)
      clear hd3 ho3'
      go_wp2_with fail
      refine (pick_x rb p3 _ w3 hr3.out (by omega)).mono ?_
      rintro e w4 ⟨r4, rfl, hr40, hr41, hd4, hr4, hz4⟩
      have hD4 := Lib.hid (hD3.out.trans hd4)
      have ho4 : Hid (Own2 w4 w.heap.size 67 (.slice a3 xs.length c3) xs) := Lib.hid (hd4.own ho3.out hrbw)
      have hs4 : w.heap.size ≤ w4.heap.size := by omega
      have hz4' := Lib.hid hz4
      clear hd4 hz4
      by_cases h4 : r4 = 0
      · subst h4
        clear hr40 hr41
        go_wp2_with (at_builtin; first
          | (refine app2 elPart (by decide) rfl (.tmp 73) (.tmp 76) rfl w.heap.size _ (xs ++ xs) 5 0 w8 rfl rfl rfl h8.out hln8 hs8 ?_; intro v9 w9 h9 hg9)
          | (refine appMany (S := (w.heap.size ≤ ·)) elPart (by decide) rfl (.tmp 63) (.tmp 64) rfl w.heap.size _ _ xs.length xs.length (cells2 xs) (cells2 xs) w4 rfl rfl ho4.out ho4.out.rd (by rw [length_cells2]; omega) (cells2_one' xs) (by omega) hs4 ?_; intro v8 w8 h8' hg8; have h8 := Lib.hid (own2App h8'.out); have hs8 : w.heap.size ≤ w8.heap.size := Nat.le_trans hs4 hg8.size; have hln8 : (xs ++ xs).length ≤ 1000000000 := (by rw [List.length_append]; omega)))
        go_ret
        exact ⟨_, _, p3 + 1, rfl, by rw [List.length_append, List.length_append, List.length_singleton]; omega, by omega, (hD4.out.grown hg8 (fun b hb => (World.ownsRow.lt ho4.out b hb).1)).grown hg9 (fun b hb => (World.ownsRow.lt h8.out b hb).1), Lib.hid ((hr4.out.grow hg8 fun b hb => by have := (World.ownsRow.lt ho4.out b hb).1; omega).grow hg9 fun b hb => by have := (World.ownsRow.lt h8.out b hb).1; omega), h9⟩
      · have h4' : (r4 == 0) = false := by simpa using h4
        go_wp2_with fail
        refine (IH _ w4 hr4.out (by omega)).mono ?_
        rintro e w5 ⟨v5, ys, p5, rfl, hy5, hp5, hd5, hr5, ho5⟩
        obtain ⟨a5, c5, rfl, _⟩ := ho5.out.shape
        have hD5 := Lib.hid (hD4.out.trans hd5)
        have ho45 := Lib.hid (hd5.own ho4.out hrbw)
        have hs5 : w.heap.size ≤ w5.heap.size := Nat.le_trans hs4 hd5.size
        clear hd5
        go_wp2_with (at_builtin; first
          | (refine app2 elPart (by decide) rfl (.tmp 73) (.tmp 76) rfl w.heap.size _ (xs ++ ys) 5 0 w8 rfl rfl rfl h8.out hln8 hs8 ?_; intro v9 w9 h9 hg9)
          | (refine appMany (S := (w4.heap.size ≤ ·)) elPart (by decide) rfl (.tmp 66) (.tmp 71) rfl w.heap.size _ _ xs.length ys.length (cells2 xs) (cells2 ys) w5 rfl rfl ho45.out ho5.out.rd (by rw [length_cells2]; omega) (cells2_one' ys) (by omega) hs5 ?_; intro v8 w8 h8' hg8; have h8 := Lib.hid (own2App h8'.out); have hs8 : w.heap.size ≤ w8.heap.size := Nat.le_trans hs5 hg8.size; have hln8 : (xs ++ ys).length ≤ 1000000000 := (by rw [List.length_append]; omega)))
        go_ret
        exact ⟨_, _, p5, rfl, by rw [List.length_append, List.length_append, List.length_singleton]; omega, by omega, (hD5.out.grown hg8 (fun b hb => (World.ownsRow.lt ho45.out b hb).1)).grown hg9 (fun b hb => (World.ownsRow.lt h8.out b hb).1), Lib.hid ((hr5.out.grow hg8 fun b hb => by have := (World.ownsRow.lt ho45.out b hb).1; omega).grow hg9 fun b hb => by have := (World.ownsRow.lt h8.out b hb).1; omega), h9⟩
    · go_wp2_with fail
      refine (IH _ w2 hr2.out (by omega)).mono ?_
      rintro e w3 ⟨v3, xs, p3, rfl, hx3, hp3, hd3, hr3, ho3'⟩
      obtain ⟨a3, c3, rfl, _⟩ := ho3'.out.shape
      have hD3 := Lib.hid (hD2.out.trans hd3)
      have hs3 : w.heap.size ≤ w3.heap.size := Nat.le_trans hs2 hd3.size
      have ho3 : Hid (Own2 w3 w.heap.size 67 (.slice a3 xs.length c3) xs) := Lib.hid (ownBase ho3'.out hs2)
      clear hd3 ho3'
      go_wp2_with fail
      refine (pick_x rb p3 _ w3 hr3.out (by omega)).mono ?_
      rintro e w4 ⟨r4, rfl, hr40, hr41, hd4, hr4, hz4⟩
      have hD4 := Lib.hid (hD3.out.trans hd4)
      have ho4 : Hid (Own2 w4 w.heap.size 67 (.slice a3 xs.length c3) xs) := Lib.hid (hd4.own ho3.out hrbw)
      have hs4 : w.heap.size ≤ w4.heap.size := by omega
      have hz4' := Lib.hid hz4
      clear hd4 hz4
      by_cases h4 : r4 = 0
      · subst h4
        clear hr40 hr41
        go_wp2_with (at_builtin; first
          | (refine app2 elPart (by decide) rfl (.tmp 73) (.tmp 76) rfl w.heap.size _ (xs ++ xs) 6 0 w8 rfl rfl rfl h8.out hln8 hs8 ?_; intro v9 w9 h9 hg9)
          | (refine appMany (S := (w.heap.size ≤ ·)) elPart (by decide) rfl (.tmp 63) (.tmp 64) rfl w.heap.size _ _ xs.length xs.length (cells2 xs) (cells2 xs) w4 rfl rfl ho4.out ho4.out.rd (by rw [length_cells2]; omega) (cells2_one' xs) (by omega) hs4 ?_; intro v8 w8 h8' hg8; have h8 := Lib.hid (own2App h8'.out); have hs8 : w.heap.size ≤ w8.heap.size := Nat.le_trans hs4 hg8.size; have hln8 : (xs ++ xs).length ≤ 1000000000 := (by rw [List.length_append]; omega)))
        go_ret
        exact ⟨_, _, p3 + 1, rfl, by rw [List.length_append, List.length_append, List.length_singleton]; omega, by omega, (hD4.out.grown hg8 (fun b hb => (World.ownsRow.lt ho4.out b hb).1)).grown hg9 (fun b hb => (World.ownsRow.lt h8.out b hb).1), Lib.hid ((hr4.out.grow hg8 fun b hb => by have := (World.ownsRow.lt ho4.out b hb).1; omega).grow hg9 fun b hb => by have := (World.ownsRow.lt h8.out b hb).1; omega), h9⟩
      · have h4' : (r4 == 0) = false := by simpa using h4
        go_wp2_with fail
        refine (IH _ w4 hr4.out (by omega)).mono ?_
        rintro e w5 ⟨v5, ys, p5, rfl, hy5, hp5, hd5, hr5, ho5⟩
        obtain ⟨a5, c5, rfl, _⟩ := ho5.out.shape
        have hD5 := Lib.hid (hD4.out.trans hd5)
        have ho45 := Lib.hid (hd5.own ho4.out hrbw)
        have hs5 : w.heap.size ≤ w5.heap.size := Nat.le_trans hs4 hd5.size
        clear hd5
        go_wp2_with (at_builtin; first
          | (refine app2 elPart (by decide) rfl (.tmp 73) (.tmp 76) rfl w.heap.size _ (xs ++ ys) 6 0 w8 rfl rfl rfl h8.out hln8 hs8 ?_; intro v9 w9 h9 hg9)
          | (refine appMany (S := (w4.heap.size ≤ ·)) elPart (by decide) rfl (.tmp 66) (.tmp 71) rfl w.heap.size _ _ xs.length ys.length (cells2 xs) (cells2 ys) w5 rfl rfl ho45.out ho5.out.rd (by rw [length_cells2]; omega) (cells2_one' ys) (by omega) hs5 ?_; intro v8 w8 h8' hg8; have h8 := Lib.hid (own2App h8'.out); have hs8 : w.heap.size ≤ w8.heap.size := Nat.le_trans hs5 hg8.size; have hln8 : (xs ++ ys).length ≤ 1000000000 := (by rw [List.length_append]; omega)))
        go_ret
        exact ⟨_, _, p5, rfl, by rw [List.length_append, List.length_append, List.length_singleton]; omega, by omega, (hD5.out.grown hg8 (fun b hb => (World.ownsRow.lt ho45.out b hb).1)).grown hg9 (fun b hb => (World.ownsRow.lt h8.out b hb).1), Lib.hid ((hr5.out.grow hg8 fun b hb => by have := (World.ownsRow.lt ho45.out b hb).1; omega).grow hg9 fun b hb => by have := (World.ownsRow.lt h8.out b hb).1; omega), h9⟩
    · go_wp2_with fail
      refine (IH _ w2 hr2.out (by omega)).mono ?_
      rintro e w3 ⟨v3, xs, p3, rfl, hx3, hp3, hd3, hr3, ho3'⟩
      obtain ⟨a3, c3, rfl, _⟩ := ho3'.out.shape
      have hD3 := Lib.hid (hD2.out.trans hd3)
      have hs3 : w.heap.size ≤ w3.heap.size := Nat.le_trans hs2 hd3.size
      have ho3 : Hid (Own2 w3 w.heap.size 67 (.slice a3 xs.length c3) xs) := Lib.hid (ownBase ho3'.out hs2)
      clear hd3 ho3'
      go_wp2_with (at_builtin; refine app2 elPart (by decide) rfl (.tmp 73) (.tmp 76) rfl w.heap.size _ xs 7 0 w3 rfl rfl rfl ho3.out (by omega) hs3 ?_; intro v8 w8 h8 hg8)
      go_ret
      exact ⟨_, _, p3, rfl, by rw [List.length_append, List.length_singleton]; omega, by omega, hD3.out.grown hg8 (fun b hb => (World.ownsRow.lt ho3.out b hb).1), Lib.hid (hr3.out.grow hg8 fun b hb => by have := (World.ownsRow.lt ho3.out b hb).1; omega), h8⟩
    · go_wp2_with fail
      refine (IH _ w2 hr2.out (by omega)).mono ?_
      rintro e w3 ⟨v3, xs, p3, rfl, hx3, hp3, hd3, hr3, ho3'⟩
      obtain ⟨a3, c3, rfl, _⟩ := ho3'.out.shape
      have hD3 := Lib.hid (hD2.out.trans hd3)
      have hs3 : w.heap.size ≤ w3.heap.size := Nat.le_trans hs2 hd3.size
      have ho3 : Hid (Own2 w3 w.heap.size 67 (.slice a3 xs.length c3) xs) := Lib.hid (ownBase ho3'.out hs2)
      clear hd3 ho3'
      go_wp2_with (at_builtin; refine app2 elPart (by decide) rfl (.tmp 73) (.tmp 76) rfl w.heap.size _ xs 8 0 w3 rfl rfl rfl ho3.out (by omega) hs3 ?_; intro v8 w8 h8 hg8)
      go_ret
      exact ⟨_, _, p3, rfl, by rw [List.length_append, List.length_singleton]; omega, by omega, hD3.out.grown hg8 (fun b hb => (World.ownsRow.lt ho3.out b hb).1), Lib.hid (hr3.out.grow hg8 fun b hb => by have := (World.ownsRow.lt ho3.out b hb).1; omega), h8⟩
    · go_wp2_with fail
      refine (IH _ w2 hr2.out (by omega)).mono ?_
      rintro e w3 ⟨v3, xs, p3, rfl, hx3, hp3, hd3, hr3, ho3'⟩
      obtain ⟨a3, c3, rfl, _⟩ := ho3'.out.shape
      have hD3 := Lib.hid (hD2.out.trans hd3)
      have hs3 : w.heap.size ≤ w3.heap.size := Nat.le_trans hs2 hd3.size
      have ho3 : Hid (Own2 w3 w.heap.size 67 (.slice a3 xs.length c3) xs) := Lib.hid (ownBase ho3'.out hs2)
      clear hd3 ho3'
      go_wp2_with fail
      refine (pick_x rb p3 _ w3 hr3.out (by omega)).mono ?_
      rintro e w4 ⟨r4, rfl, hr40, hr41, hd4, hr4, hz4⟩
      have hD4 := Lib.hid (hD3.out.trans hd4)
      have ho4 : Hid (Own2 w4 w.heap.size 67 (.slice a3 xs.length c3) xs) := Lib.hid (hd4.own ho3.out hrbw)
      have hs4 : w.heap.size ≤ w4.heap.size := by omega
      have hz4' := Lib.hid hz4
      clear hd4 hz4
      by_cases h4 : r4 = 0
      · subst h4
        clear hr40 hr41
        go_wp2_with (at_builtin; first
          | (refine app2 elPart (by decide) rfl (.tmp 73) (.tmp 76) rfl w.heap.size _ (xs ++ xs) 4 0 w8 rfl rfl rfl h8.out hln8 hs8 ?_; intro v9 w9 h9 hg9)
          | (refine appMany (S := (w.heap.size ≤ ·)) elPart (by decide) rfl (.tmp 63) (.tmp 64) rfl w.heap.size _ _ xs.length xs.length (cells2 xs) (cells2 xs) w4 rfl rfl ho4.out ho4.out.rd (by rw [length_cells2]; omega) (cells2_one' xs) (by omega) hs4 ?_; intro v8 w8 h8' hg8; have h8 := Lib.hid (own2App h8'.out); have hs8 : w.heap.size ≤ w8.heap.size := Nat.le_trans hs4 hg8.size; have hln8 : (xs ++ xs).length ≤ 1000000000 := (by rw [List.length_append]; omega)))
        go_ret
        exact ⟨_, _, p3 + 1, rfl, by rw [List.length_append, List.length_append, List.length_singleton]; omega, by omega, (hD4.out.grown hg8 (fun b hb => (World.ownsRow.lt ho4.out b hb).1)).grown hg9 (fun b hb => (World.ownsRow.lt h8.out b hb).1), Lib.hid ((hr4.out.grow hg8 fun b hb => by have := (World.ownsRow.lt ho4.out b hb).1; omega).grow hg9 fun b hb => by have := (World.ownsRow.lt h8.out b hb).1; omega), h9⟩
      · have h4' : (r4 == 0) = false := by simpa using h4
        go_wp2_with fail
        refine (IH _ w4 hr4.out (by omega)).mono ?_
        rintro e w5 ⟨v5, ys, p5, rfl, hy5, hp5, hd5, hr5, ho5⟩
        obtain ⟨a5, c5, rfl, _⟩ := ho5.out.shape
        have hD5 := Lib.hid (hD4.out.trans hd5)
        have ho45 := Lib.hid (hd5.own ho4.out hrbw)
        have hs5 : w.heap.size ≤ w5.heap.size := Nat.le_trans hs4 hd5.size
        clear hd5
        go_wp2_with (at_builtin; first
          | (refine app2 elPart (by decide) rfl (.tmp 73) (.tmp 76) rfl w.heap.size _ (xs ++ ys) 4 0 w8 rfl rfl rfl h8.out hln8 hs8 ?_; intro v9 w9 h9 hg9)
          | (refine appMany (S := (w4.heap.size ≤ ·)) elPart (by decide) rfl (.tmp 66) (.tmp 71) rfl w.heap.size _ _ xs.length ys.length (cells2 xs) (cells2 ys) w5 rfl rfl ho45.out ho5.out.rd (by rw [length_cells2]; omega) (cells2_one' ys) (by omega) hs5 ?_; intro v8 w8 h8' hg8; have h8 := Lib.hid (own2App h8'.out); have hs8 : w.heap.size ≤ w8.heap.size := Nat.le_trans hs5 hg8.size; have hln8 : (xs ++ ys).length ≤ 1000000000 := (by rw [List.length_append]; omega)))
        go_ret
        exact ⟨_, _, p5, rfl, by rw [List.length_append, List.length_append, List.length_singleton]; omega, by omega, (hD5.out.grown hg8 (fun b hb => (World.ownsRow.lt ho45.out b hb).1)).grown hg9 (fun b hb => (World.ownsRow.lt h8.out b hb).1), Lib.hid ((hr5.out.grow hg8 fun b hb => by have := (World.ownsRow.lt ho45.out b hb).1; omega).grow hg9 fun b hb => by have := (World.ownsRow.lt h8.out b hb).1; omega), h9⟩
    · go_wp2_with fail
      refine (IH _ w2 hr2.out (by omega)).mono ?_
      rintro e w3 ⟨v3, xs, p3, rfl, hx3, hp3, hd3, hr3, ho3'⟩
      obtain ⟨a3, c3, rfl, _⟩ := ho3'.out.shape
      have hD3 := Lib.hid (hD2.out.trans hd3)
      have hs3 : w.heap.size ≤ w3.heap.size := Nat.le_trans hs2 hd3.size
      have ho3 : Hid (Own2 w3 w.heap.size 67 (.slice a3 xs.length c3) xs) := Lib.hid (ownBase ho3'.out hs2)
      clear hd3 ho3'
      go_wp2_with fail
      refine (pick_x rb p3 _ w3 hr3.out (by omega)).mono ?_
      rintro e w4 ⟨r4, rfl, hr40, hr41, hd4, hr4, hz4⟩
      have hD4 := Lib.hid (hD3.out.trans hd4)
      have ho4 : Hid (Own2 w4 w.heap.size 67 (.slice a3 xs.length c3) xs) := Lib.hid (hd4.own ho3.out hrbw)
      have hs4 : w.heap.size ≤ w4.heap.size := by omega
      have hz4' := Lib.hid hz4
      clear hd4 hz4
      by_cases h4 : r4 = 0
      · subst h4
        clear hr40 hr41
        go_wp2_with (at_builtin; first
          | (refine app2 elPart (by decide) rfl (.tmp 73) (.tmp 76) rfl w.heap.size _ (xs ++ xs) 5 0 w8 rfl rfl rfl h8.out hln8 hs8 ?_; intro v9 w9 h9 hg9)
          | (refine appMany (S := (w.heap.size ≤ ·)) elPart (by decide) rfl (.tmp 63) (.tmp 64) rfl w.heap.size _ _ xs.length xs.length (cells2 xs) (cells2 xs) w4 rfl rfl ho4.out ho4.out.rd (by rw [length_cells2]; omega) (cells2_one' xs) (by omega) hs4 ?_; intro v8 w8 h8' hg8; have h8 := Lib.hid (own2App h8'.out); have hs8 : w.heap.size ≤ w8.heap.size := Nat.le_trans hs4 hg8.size; have hln8 : (xs ++ xs).length ≤ 1000000000 := (by rw [List.length_append]; omega)))
        go_ret
        exact ⟨_, _, p3 + 1, rfl, by rw [List.length_append, List.length_append, List.length_singleton]; omega, by omega, (hD4.out.grown hg8 (fun b hb => (World.ownsRow.lt ho4.out b hb).1)).grown hg9 (fun b hb => (World.ownsRow.lt h8.out b hb).1), Lib.hid ((hr4.out.grow hg8 fun b hb => by have := (World.ownsRow.lt ho4.out b hb).1; omega).grow hg9 fun b hb => by have := (World.ownsRow.lt h8.out b hb).1; omega), h9⟩
      · have h4' : (r4 == 0) = false := by simpa using h4
        go_wp2_with fail
        refine (IH _ w4 hr4.out (by omega)).mono ?_
        rintro e w5 ⟨v5, ys, p5, rfl, hy5, hp5, hd5, hr5, ho5⟩
        obtain ⟨a5, c5, rfl, _⟩ := ho5.out.shape
        have hD5 := Lib.hid (hD4.out.trans hd5)
        have ho45 := Lib.hid (hd5.own ho4.out hrbw)
        have hs5 : w.heap.size ≤ w5.heap.size := Nat.le_trans hs4 hd5.size
        clear hd5
        go_wp2_with (at_builtin; first
          | (refine app2 elPart (by decide) rfl (.tmp 73) (.tmp 76) rfl w.heap.size _ (xs ++ ys) 5 0 w8 rfl rfl rfl h8.out hln8 hs8 ?_; intro v9 w9 h9 hg9)
          | (refine appMany (S := (w4.heap.size ≤ ·)) elPart (by decide) rfl (.tmp 66) (.tmp 71) rfl w.heap.size _ _ xs.length ys.length (cells2 xs) (cells2 ys) w5 rfl rfl ho45.out ho5.out.rd (by rw [length_cells2]; omega) (cells2_one' ys) (by omega) hs5 ?_; intro v8 w8 h8' hg8; have h8 := Lib.hid (own2App h8'.out); have hs8 : w.heap.size ≤ w8.heap.size := Nat.le_trans hs5 hg8.size; have hln8 : (xs ++ ys).length ≤ 1000000000 := (by rw [List.length_append]; omega)))
        go_ret
        exact ⟨_, _, p5, rfl, by rw [List.length_append, List.length_append, List.length_singleton]; omega, by omega, (hD5.out.grown hg8 (fun b hb => (World.ownsRow.lt ho45.out b hb).1)).grown hg9 (fun b hb => (World.ownsRow.lt h8.out b hb).1), Lib.hid ((hr5.out.grow hg8 fun b hb => by have := (World.ownsRow.lt ho45.out b hb).1; omega).grow hg9 fun b hb => by have := (World.ownsRow.lt h8.out b hb).1; omega), h9⟩
    · go_wp2_with fail
      refine (IH _ w2 hr2.out (by omega)).mono ?_
      rintro e w3 ⟨v3, xs, p3, rfl, hx3, hp3, hd3, hr3, ho3'⟩
      obtain ⟨a3, c3, rfl, _⟩ := ho3'.out.shape
      have hD3 := Lib.hid (hD2.out.trans hd3)
      have hs3 : w.heap.size ≤ w3.heap.size := Nat.le_trans hs2 hd3.size
      have ho3 : Hid (Own2 w3 w.heap.size 67 (.slice a3 xs.length c3) xs) := Lib.hid (ownBase ho3'.out hs2)
      clear hd3 ho3'
      go_wp2_with fail
      refine (pick_x rb p3 _ w3 hr3.out (by omega)).mono ?_
      rintro e w4 ⟨r4, rfl, hr40, hr41, hd4, hr4, hz4⟩
      have hD4 := Lib.hid (hD3.out.trans hd4)
      have ho4 : Hid (Own2 w4 w.heap.size 67 (.slice a3 xs.length c3) xs) := Lib.hid (hd4.own ho3.out hrbw)
      have hs4 : w.heap.size ≤ w4.heap.size := by omega
      have hz4' := Lib.hid hz4
      clear hd4 hz4
      by_cases h4 : r4 = 0
      · subst h4
        clear hr40 hr41
        go_wp2_with (at_builtin; first
          | (refine app2 elPart (by decide) rfl (.tmp 73) (.tmp 76) rfl w.heap.size _ (xs ++ xs) 4 0 w8 rfl rfl rfl h8.out hln8 hs8 ?_; intro v9 w9 h9 hg9)
          | (refine appMany (S := (w.heap.size ≤ ·)) elPart (by decide) rfl (.tmp 63) (.tmp 64) rfl w.heap.size _ _ xs.length xs.length (cells2 xs) (cells2 xs) w4 rfl rfl ho4.out ho4.out.rd (by rw [length_cells2]; omega) (cells2_one' xs) (by omega) hs4 ?_; intro v8 w8 h8' hg8; have h8 := Lib.hid (own2App h8'.out); have hs8 : w.heap.size ≤ w8.heap.size := Nat.le_trans hs4 hg8.size; have hln8 : (xs ++ xs).length ≤ 1000000000 := (by rw [List.length_append]; omega)))
        go_ret
        exact ⟨_, _, p3 + 1, rfl, by rw [List.length_append, List.length_append, List.length_singleton]; omega, by omega, (hD4.out.grown hg8 (fun b hb => (World.ownsRow.lt ho4.out b hb).1)).grown hg9 (fun b hb => (World.ownsRow.lt h8.out b hb).1), Lib.hid ((hr4.out.grow hg8 fun b hb => by have := (World.ownsRow.lt ho4.out b hb).1; omega).grow hg9 fun b hb => by have := (World.ownsRow.lt h8.out b hb).1; omega), h9⟩
      · have h4' : (r4 == 0) = false := by simpa using h4
        go_wp2_with fail
        refine (IH _ w4 hr4.out (by omega)).mono ?_
        rintro e w5 ⟨v5, ys, p5, rfl, hy5, hp5, hd5, hr5, ho5⟩
        obtain ⟨a5, c5, rfl, _⟩ := ho5.out.shape
        have hD5 := Lib.hid (hD4.out.trans hd5)
        have ho45 := Lib.hid (hd5.own ho4.out hrbw)
        have hs5 : w.heap.size ≤ w5.heap.size := Nat.le_trans hs4 hd5.size
        clear hd5
        go_wp2_with (at_builtin; first
          | (refine app2 elPart (by decide) rfl (.tmp 73) (.tmp 76) rfl w.heap.size _ (xs ++ ys) 4 0 w8 rfl rfl rfl h8.out hln8 hs8 ?_; intro v9 w9 h9 hg9)
          | (refine appMany (S := (w4.heap.size ≤ ·)) elPart (by decide) rfl (.tmp 66) (.tmp 71) rfl w.heap.size _ _ xs.length ys.length (cells2 xs) (cells2 ys) w5 rfl rfl ho45.out ho5.out.rd (by rw [length_cells2]; omega) (cells2_one' ys) (by omega) hs5 ?_; intro v8 w8 h8' hg8; have h8 := Lib.hid (own2App h8'.out); have hs8 : w.heap.size ≤ w8.heap.size := Nat.le_trans hs5 hg8.size; have hln8 : (xs ++ ys).length ≤ 1000000000 := (by rw [List.length_append]; omega)))
        go_ret
        exact ⟨_, _, p5, rfl, by rw [List.length_append, List.length_append, List.length_singleton]; omega, by omega, (hD5.out.grown hg8 (fun b hb => (World.ownsRow.lt ho45.out b hb).1)).grown hg9 (fun b hb => (World.ownsRow.lt h8.out b hb).1), Lib.hid ((hr5.out.grow hg8 fun b hb => by have := (World.ownsRow.lt ho45.out b hb).1; omega).grow hg9 fun b hb => by have := (World.ownsRow.lt h8.out b hb).1; omega), h9⟩
    · go_wp2_with fail
      refine (IH _ w2 hr2.out (by omega)).mono ?_
      rintro e w3 ⟨v3, xs, p3, rfl, hx3, hp3, hd3, hr3, ho3'⟩
      obtain ⟨a3, c3, rfl, _⟩ := ho3'.out.shape
      have hD3 := Lib.hid (hD2.out.trans hd3)
      have hs3 : w.heap.size ≤ w3.heap.size := Nat.le_trans hs2 hd3.size
      have ho3 : Hid (Own2 w3 w.heap.size 67 (.slice a3 xs.length c3) xs) := Lib.hid (ownBase ho3'.out hs2)
      clear hd3 ho3'
      go_wp2_with fail
      refine (pick_x rb p3 _ w3 hr3.out (by omega)).mono ?_
      rintro e w4 ⟨r4, rfl, hr40, hr41, hd4, hr4, hz4⟩
      have hD4 := Lib.hid (hD3.out.trans hd4)
      have ho4 : Hid (Own2 w4 w.heap.size 67 (.slice a3 xs.length c3) xs) := Lib.hid (hd4.own ho3.out hrbw)
      have hs4 : w.heap.size ≤ w4.heap.size := by omega
      have hz4' := Lib.hid hz4
      clear hd4 hz4
      by_cases h4 : r4 = 0
      · subst h4
        clear hr40 hr41
        go_wp2_with (at_builtin; first
          | (refine app2 elPart (by decide) rfl (.tmp 73) (.tmp 76) rfl w.heap.size _ (xs ++ xs) 4 0 w8 rfl rfl rfl h8.out hln8 hs8 ?_; intro v9 w9 h9 hg9)
          | (refine appMany (S := (w.heap.size ≤ ·)) elPart (by decide) rfl (.tmp 63) (.tmp 64) rfl w.heap.size _ _ xs.length xs.length (cells2 xs) (cells2 xs) w4 rfl rfl ho4.out ho4.out.rd (by rw [length_cells2]; omega) (cells2_one' xs) (by omega) hs4 ?_; intro v8 w8 h8' hg8; have h8 := Lib.hid (own2App h8'.out); have hs8 : w.heap.size ≤ w8.heap.size := Nat.le_trans hs4 hg8.size; have hln8 : (xs ++ xs).length ≤ 1000000000 := (by rw [List.length_append]; omega)))
        go_ret
        exact ⟨_, _, p3 + 1, rfl, by rw [List.length_append, List.length_append, List.length_singleton]; omega, by omega, (hD4.out.grown hg8 (fun b hb => (World.ownsRow.lt ho4.out b hb).1)).grown hg9 (fun b hb => (World.ownsRow.lt h8.out b hb).1), Lib.hid ((hr4.out.grow hg8 fun b hb => by have := (World.ownsRow.lt ho4.out b hb).1; omega).grow hg9 fun b hb => by have := (World.ownsRow.lt h8.out b hb).1; omega), h9⟩
      · have h4' : (r4 == 0) = false := by simpa using h4
        go_wp2_with fail
        refine (IH _ w4 hr4.out (by omega)).mono ?_
        rintro e w5 ⟨v5, ys, p5, rfl, hy5, hp5, hd5, hr5, ho5⟩
        obtain ⟨a5, c5, rfl, _⟩ := ho5.out.shape
        have hD5 := Lib.hid (hD4.out.trans hd5)
        have ho45 := Lib.hid (hd5.own ho4.out hrbw)
        have hs5 : w.heap.size ≤ w5.heap.size := Nat.le_trans hs4 hd5.size
        clear hd5
        go_wp2_with (at_builtin; first
          | (refine app2 elPart (by decide) rfl (.tmp 73) (.tmp 76) rfl w.heap.size _ (xs ++ ys) 4 0 w8 rfl rfl rfl h8.out hln8 hs8 ?_; intro v9 w9 h9 hg9)
          | (refine appMany (S := (w4.heap.size ≤ ·)) elPart (by decide) rfl (.tmp 66) (.tmp 71) rfl w.heap.size _ _ xs.length ys.length (cells2 xs) (cells2 ys) w5 rfl rfl ho45.out ho5.out.rd (by rw [length_cells2]; omega) (cells2_one' ys) (by omega) hs5 ?_; intro v8 w8 h8' hg8; have h8 := Lib.hid (own2App h8'.out); have hs8 : w.heap.size ≤ w8.heap.size := Nat.le_trans hs5 hg8.size; have hln8 : (xs ++ ys).length ≤ 1000000000 := (by rw [List.length_append]; omega)))
        go_ret
        exact ⟨_, _, p5, rfl, by rw [List.length_append, List.length_append, List.length_singleton]; omega, by omega, (hD5.out.grown hg8 (fun b hb => (World.ownsRow.lt ho45.out b hb).1)).grown hg9 (fun b hb => (World.ownsRow.lt h8.out b hb).1), Lib.hid ((hr5.out.grow hg8 fun b hb => by have := (World.ownsRow.lt ho45.out b hb).1; omega).grow hg9 fun b hb => by have := (World.ownsRow.lt h8.out b hb).1; omega), h9⟩
    · go_wp2_with fail
      refine (IH _ w2 hr2.out (by omega)).mono ?_
      rintro e w3 ⟨v3, xs, p3, rfl, hx3, hp3, hd3, hr3, ho3'⟩
      obtain ⟨a3, c3, rfl, _⟩ := ho3'.out.shape
      have hD3 := Lib.hid (hD2.out.trans hd3)
      have hs3 : w.heap.size ≤ w3.heap.size := Nat.le_trans hs2 hd3.size
      have ho3 : Hid (Own2 w3 w.heap.size 67 (.slice a3 xs.length c3) xs) := Lib.hid (ownBase ho3'.out hs2)
      clear hd3 ho3'
      go_wp2_with (at_builtin; refine app2 elPart (by decide) rfl (.tmp 73) (.tmp 76) rfl w.heap.size _ xs 8 0 w3 rfl rfl rfl ho3.out (by omega) hs3 ?_; intro v8 w8 h8 hg8)
      go_ret
      exact ⟨_, _, p3, rfl, by rw [List.length_append, List.length_singleton]; omega, by omega, hD3.out.grown hg8 (fun b hb => (World.ownsRow.lt ho3.out b hb).1), Lib.hid (hr3.out.grow hg8 fun b hb => by have := (World.ownsRow.lt ho3.out b hb).1; omega), h8⟩
theorem l20Make_c (d : Nat) (hd : d ≤ 3) (rb p : Nat) (plain : Bool) (w : World) (h : Rdx w rb p) (hp : p ≤ 800000) : Calls Try.prog 80 #[.pointer (some ⟨rb, 0, none⟩), .int .i64 d, .bool plain] w (DrP rb p 60 15 w) := by
  have weak : ∀ {c m p : Nat} {w : World} {e : Ending} {w' : World}, c ≤ 60 → m ≤ 15 → DrP rb p c m w e w' → DrP rb p 60 15 w e w' := by
    rintro c m p w e w' hc hm ⟨v, xs, p', h1, h2, h3, h4⟩
    exact ⟨v, xs, p', h1, by omega, by omega, h4⟩
  have k0 : ∀ (p : Nat) (w : World), Rdx w rb p → p ≤ 880000 → Calls Try.prog 80 #[.pointer (some ⟨rb, 0, none⟩), .int .i64 (0 : Nat), .bool plain] w (DrP rb p 3 1 w) := fun p w h hp => l20Make0_c rb p plain w h (by omega)
  have k1 : ∀ (p : Nat) (w : World), Rdx w rb p → p ≤ 870000 → Calls Try.prog 80 #[.pointer (some ⟨rb, 0, none⟩), .int .i64 (1 : Nat), .bool plain] w (DrP rb p 10 3 w) := fun p w h hp => l20Make1_c 0 rb p 3 1 870000 plain w h (by omega) hp (by omega) (by omega) (by omega) (fun p w h hp => k0 p w h (by omega))
  have k2 : ∀ (p : Nat) (w : World), Rdx w rb p → p ≤ 860000 → Calls Try.prog 80 #[.pointer (some ⟨rb, 0, none⟩), .int .i64 (2 : Nat), .bool plain] w (DrP rb p 24 7 w) := fun p w h hp => l20Make1_c 1 rb p 10 3 860000 plain w h (by omega) hp (by omega) (by omega) (by omega) (fun p w h hp => k1 p w h (by omega))
  have k3 : ∀ (p : Nat) (w : World), Rdx w rb p → p ≤ 850000 → Calls Try.prog 80 #[.pointer (some ⟨rb, 0, none⟩), .int .i64 (3 : Nat), .bool plain] w (DrP rb p 52 15 w) := fun p w h hp => l20Make1_c 2 rb p 24 7 850000 plain w h (by omega) hp (by omega) (by omega) (by omega) (fun p w h hp => k2 p w h (by omega))
  rcases (by omega : d = 0 ∨ d = 1 ∨ d = 2 ∨ d = 3) with rfl | rfl | rfl | rfl
  · exact (k0 p w h (by omega)).mono fun e w' => weak (by omega) (by omega)
  · exact (k1 p w h (by omega)).mono fun e w' => weak (by omega) (by omega)
  · exact (k2 p w h (by omega)).mono fun e w' => weak (by omega) (by omega)
  · exact (k3 p w h (by omega)).mono fun e w' => weak (by omega) (by omega)
end Go.Proofs.Ytbcjhiponbfbnaa
