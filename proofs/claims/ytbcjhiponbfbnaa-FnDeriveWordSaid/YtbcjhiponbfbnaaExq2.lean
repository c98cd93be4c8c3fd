/- An expression is drawn, to be read in blocks of parts; and the draw of an expression and a number. -/
import Derived.Deep.RegionHeld3
import Derived.Test.YtbcjhiponbfbnaaGU
import Derived.Test.YtbcjhiponbfbnaaGP
set_option linter.unusedSimpArgs false
set_option linter.unusedVariables false
set_option linter.unusedSectionVars false
namespace Go.Proofs.Ytbcjhiponbfbnaa
open Go.RowKit
set_option maxRecDepth 100000
variable {S T : Nat → Prop}
/-- A list of parts was drawn. -/
def DxQ (rb p c m : Nat) (w : World) (e : Ending) (w' : World) : Prop := ∃ (v : Value) (xs : List (Int × Int)) (p' : Nat), e = .returned v ∧ xs.length ≤ m ∧ p' ≤ p + c ∧ Dr rb w w' ∧ Hid (Rdx w' rb p') ∧ Hid (PL0 w' v xs)
theorem PT.grown {w w' : World} {row : Option Nat} {b : Nat} (h : PT w b) (hg : w.grownBy w' row) (hn : ∀ c, row = some c → ¬ PT w c) : PT w' b := by
  obtain ⟨cs, fz, e⟩ := h
  exact ⟨cs, fz, blkGrow hg e fun e2 => hn b e2.symm ⟨cs, fz, e⟩⟩
theorem PL0.grown {w w' : World} {row : Option Nat} {v : Value} {xs : List (Int × Int)} (h : PL0 w v xs) (hg : w.grownBy w' row) (hn : ∀ c, row = some c → ¬ PT w c) : PL0 w' v xs :=
  (Pairs.stay h ((kpG hg).mono fun b hb e => hn b e.symm hb)).mono fun _ hb => PT.grown hb hg hn
theorem PR.grown {w w' : World} {row : Option Nat} {v : Value} {t : Re} (h : PR w v t) (hg : w.grownBy w' row) (hn : ∀ c, row = some c → ¬ PT w c) : PR w' v t := ⟨h.1, h.2.grown hg hn⟩
theorem pl0Tail {w : World} {base : Nat} {v : Value} {x : Int × Int} {xs : List (Int × Int)} (h : OwnP w base v (x :: xs)) :
    ∃ g cap, v = .slice (some ⟨g, 0, none⟩) (xs.length + 1) (cap + 1) ∧ xs.length ≤ cap ∧ cap + 1 ≤ 9223372036854775807 ∧ (cap = 0 → PL0 w (.slice (some ⟨g, 0, none⟩) 0 0) xs) ∧
      PL0 w (.slice (some ⟨g, 2, none⟩) xs.length cap) xs := by
  have hp := OwnP.pl0 h
  obtain ⟨hl, hh⟩ := h
  rcases hh with ⟨_, hn⟩ | ⟨g, cap, cur, rfl, hb, hg, hnc, hcm, hcs, ht⟩
  · simp at hn
  · simp only [List.length_cons] at hnc
    obtain ⟨c, rfl⟩ : ∃ c, cap = c + 1 := ⟨cap - 1, by omega⟩
    refine ⟨g, c, rfl, by omega, by unfold maxLen at hcm; omega, fun h0 => ?_, ?_⟩
    · have : xs = [] := List.eq_nil_of_length_eq_zero (by omega)
      subst this
      exact ⟨_, 0, rfl, ⟨Nat.zero_le _, Nat.le_refl _, fun h => by cases h⟩, fun i hi => absurd hi (by simp [cells2])⟩
    · obtain ⟨a', cap', e, hn, hc⟩ := hp
      cases e
      simp only [List.length_cons] at hn
      refine ⟨_, c, rfl, ⟨by omega, by omega, fun h => by cases h⟩, fun i hi => ?_⟩
      obtain ⟨b, off, e, hs, hcell⟩ := hc (i + 2) (by rw [length_cells2] at hi ⊢; simp only [List.length_cons]; omega)
      cases e
      refine ⟨g, 2, rfl, hs, ?_⟩
      rw [show 2 + i = 0 + (i + 2) by omega, hcell]
      rfl
set_option maxHeartbeats 2000000 in
theorem l20Expr_p (rb p : Nat) (n : Int) (w : World) (h : Rdx w rb p) (hp : p ≤ 600000) (hn1 : -9223372036854775808 < n) :
    Calls Try.prog 39 #[.pointer (some ⟨rb, 0, none⟩), .int .i64 n] w (DxQ rb p 100 61 w) := by
  have hlt0 := h.lt
  have H := Lib.hid h; clear h
  go_enter Try.func39, Try.ntmps39
  go_wp2_with fail
  refine (pick_x rb p _ w H.out (by omega)).mono ?_
  rintro e w1 ⟨k, rfl, hk0, hk1, hd1, hr1, hzz⟩; clear hzz
  have hk2 : k ≤ 2 := by omega
  clear hk1 H
  have hmk : Calls Try.prog 80 #[.pointer (some ⟨rb, 0, none⟩), .int .i64 (1 + k), .bool false] w1 (DrP rb (p + 1) 60 15 w1) := by
    rcases (by omega : k = 0 ∨ k = 1 ∨ k = 2) with rfl | rfl | rfl
    · exact l20Make_c 1 (by omega) rb (p + 1) false w1 hr1.out (by omega)
    · exact l20Make_c 2 (by omega) rb (p + 1) false w1 hr1.out (by omega)
    · exact l20Make_c 3 (by omega) rb (p + 1) false w1 hr1.out (by omega)
  have Hmk := Lib.hid hmk
  have hs1 := hd1.size
  have HD1 := Lib.hid hd1
  clear hmk hd1 hr1
  go_wp2_with fail
  refine Hmk.out.mono ?_
  rintro e w2 ⟨v2, xs, p2, rfl, ⟨hx1, hx15⟩, hp2, hd2, hr2, ho2'⟩
  have ho2 : Hid (Own2 w2 w.heap.size 67 v2 xs) := Lib.hid (ownBase ho2'.out hs1)
  have HD2 := Lib.hid (HD1.out.trans hd2)
  clear hd2 ho2' Hmk HD1
  obtain ⟨a2, c2, rfl, _⟩ := ho2.out.shape
  go_wp2_with fail
  refine (odd_x rb p2 _ _ hr2.out (by omega) hn1).mono ?_
  rintro e w3 ⟨b, p3, rfl, hp3, hd3, hr3, hzz⟩; clear hzz
  have ho3 : Hid (Own2 w3 w.heap.size 67 (.slice a2 xs.length c2) xs) := Lib.hid (hd3.own ho2.out hlt0)
  have HD3 := Lib.hid (HD2.out.trans hd3)
  clear hd3 ho2 HD2 hr2
  cases b
  · go_wp2
    go_ret
    exact ⟨_, xs, p3, rfl, by omega, by omega, HD3.out, hr3, Lib.hid (OwnP.pl0 ho3.out)⟩
  · go_wp2_with fail
    refine (pick_x rb p3 _ _ hr3.out (by omega)).mono ?_
    rintro e w4 ⟨q, rfl, hq0, hq1, hd4, hr4, hzz⟩; clear hzz
    have ho4 : Hid (Own2 w4 w.heap.size 67 (.slice a2 xs.length c2) xs) := Lib.hid (hd4.own ho3.out hlt0)
    have HD4 := Lib.hid (HD3.out.trans hd4)
    have hs4 := HD4.out.size
    clear hd4 ho3 HD3 hr3
    rcases (by omega : q = 0 ∨ q = 1 ∨ q = 2 ∨ q = 3) with rfl | rfl | rfl | rfl
    · clear hq0 hq1
      obtain ⟨x, xt, rfl⟩ : ∃ x t, xs = x :: t := by
        cases xs with
        | nil => simp at hx1
        | cons x t => exact ⟨x, t, rfl⟩
      obtain ⟨g, cap, e, hnc, hcm, hz0, hz1⟩ := pl0Tail ho4.out
      injection e with e1 e2 e3
      subst e1 e3
      have Hz0 := Lib.hid hz0
      have Hz1 := Lib.hid hz1
      clear hz0 hz1 e2 ho4
      simp only [List.length_cons] at hx1 hx15 ⊢
      by_cases hc0 : cap = 0
      · subst hc0
        have hl0 : xt.length = 0 := by omega
        have Hz := Lib.hid (Hz0.out rfl)
        rw [hl0]
        go_wp2
        go_ret
        exact ⟨_, xt, p3 + 1, rfl, by omega, by omega, HD4.out, hr4, Hz⟩
      · have hcp : 0 < cap := by omega
        go_wp2
        go_ret
        exact ⟨_, xt, p3 + 1, rfl, by omega, by omega, HD4.out, hr4, Hz1⟩
    · clear hq0 hq1
      go_wp2_with fail
      refine (l20Part_x rb (p3 + 1) 1 _ hr4.out (by omega) (by omega)).mono ?_
      rintro e w5 ⟨x, y, p5, rfl, hp5, hd5, hr5⟩
      have ho5 : Hid (Own2 w5 w.heap.size 67 (.slice a2 xs.length c2) xs) := Lib.hid (hd5.own ho4.out hlt0)
      have HD5 := Lib.hid (HD4.out.trans hd5)
      have hs5 := HD5.out.size
      clear hd5 ho4 HD4 hr4
      go_wp2_with (at_builtin; refine app2 elPart (by decide) rfl (.tmp 29) (.tmp 32) rfl w.heap.size _ xs x y w5 rfl rfl rfl ho5.out (by omega) hs5 ?_; intro v8 w8 h8 hg8)
      go_ret
      exact ⟨_, _, p5, rfl, by rw [List.length_append, List.length_singleton]; omega, by omega, HD5.out.grown hg8 (fun b hb => (World.ownsRow.lt ho5.out b hb).1), Lib.hid (hr5.out.grow hg8 fun b hb => by have := (World.ownsRow.lt ho5.out b hb).1; omega), Lib.hid (OwnP.pl0 h8.out)⟩
    · clear hq0 hq1
      go_wp2_with (at_builtin; refine app2 elPart (by decide) rfl (.tmp 36) (.tmp 38) rfl w.heap.size _ xs 2 0 w4 rfl rfl rfl ho4.out (by omega) hs4 ?_; intro v8 w8 h8 hg8)
      go_ret
      exact ⟨_, _, p3 + 1, rfl, by rw [List.length_append, List.length_singleton]; omega, by omega, HD4.out.grown hg8 (fun b hb => (World.ownsRow.lt ho4.out b hb).1), Lib.hid (hr4.out.grow hg8 fun b hb => by have := (World.ownsRow.lt ho4.out b hb).1; omega), Lib.hid (OwnP.pl0 h8.out)⟩
    · clear hq0 hq1
      go_wp2_with fail
      go_loopw [5] (fun v wr => ∃ (ys : List (Int × Int)), ys.length ≤ 61 ∧ Hid (Dr rb w wr) ∧ Hid (Rdx wr rb (p3 + 1)) ∧ Hid (Own2 wr w.heap.size 67 v ys)) (fun v _ => 62 - lenP v)
      case atStart => exact ⟨xs, by omega, HD4, hr4, ho4⟩
      case round =>
        obtain ⟨ys, hy, hd, hr, ho⟩ := hrel
        obtain ⟨a, c, rfl, _⟩ := ho.out.shape
        have hs := hd.out.size
        clear hr4 ho4 HD4 hs4
        by_cases hlt : ys.length ≤ 60
        · have hltI : (ys.length : Int) ≤ 60 := by omega
          go_wp2_with (at_builtin; refine app2 elPart (by decide) rfl (.tmp 19) (.tmp 21) rfl w.heap.size _ ys 8 0 wr rfl rfl rfl ho.out (by omega) hs ?_; intro v8 w8 h8 hg8)
          obtain ⟨a8, c8, rfl, _⟩ := h8.out.shape
          go_roundw
          case rel => exact ⟨_, by rw [List.length_append, List.length_singleton]; omega, Lib.hid (hd.out.grown hg8 (fun b hb => (World.ownsRow.lt ho.out b hb).1)), Lib.hid (hr.out.grow hg8 fun b hb => by have := (World.ownsRow.lt ho.out b hb).1; omega), h8⟩
          case measure => simp [lenP]; omega
        · have hltI : (60 : Int) < (ys.length : Int) := by omega
          go_wp2
          go_ret
          exact ⟨_, ys, p3 + 1, rfl, by omega, by omega, hd.out, hr, Lib.hid (OwnP.pl0 ho.out)⟩
/-- The reader is no list of parts. -/
theorem Rdx.noPT {w : World} {rb p : Nat} (h : Rdx w rb p) : ¬ PT w rb := by
  rintro ⟨cs, fz, e⟩
  obtain ⟨bv, bs, h1, _⟩ := h
  rw [h1] at e
  injection e with e
  injection e with _ e2 _
  exact absurd e2 (by decide)
set_option maxHeartbeats 800000 in
theorem l20Length_x (rb p : Nat) (w : World) (h : Rdx w rb p) (hp : p ≤ 900000) : Calls Try.prog 76 #[.pointer (some ⟨rb, 0, none⟩), .int .i64 3] w (fun e w' => ∃ n : Int, e = .returned (.int .i64 n) ∧ (-1 ≤ n ∧ n ≤ 4) ∧ Dr rb w w') := by
  have hlt := h.lt
  have H := Lib.hid h; clear h
  go_enter Try.func76, Try.ntmps76
  go_wp2_with fail
  refine (pick_x rb p _ w H.out (by omega)).mono ?_
  rintro e w1 ⟨k, rfl, hk0, hk1, hd1, hr1, hz1⟩
  have hk3 : k ≤ 3 := by omega
  obtain ⟨W, hW⟩ : ∃ W, W = (w1.alloc (.cells #[.int .i64 k, .int .i64 (-1), .int .i64 4] 3)).alloc (.cells #[.int .i64 0, .int .i64 0, .int .i64 0, .int .i64 0, .int .i64 0, .int .i64 0, .int .i64 1, .int .i64 2] 3) := ⟨_, rfl⟩
  have hbW : Below w1.heap.size w1 W := by rw [hW]; exact ((Below.refl _ _).alloc (Nat.le_refl _) _).alloc (by simp) _
  have KA : Hid (W.heap[w1.heap.size]? = some (.cells #[.int .i64 k, .int .i64 (-1), .int .i64 4] 3 (0, 0))) := Lib.hid (by rw [hW]; exact blkOld (blkNew _ _ rfl))
  have KB : Hid (W.heap[w1.heap.size + 1]? = some (.cells #[.int .i64 0, .int .i64 0, .int .i64 0, .int .i64 0, .int .i64 0, .int .i64 0, .int .i64 1, .int .i64 2] 3 (0, 0))) := Lib.hid (by rw [hW]; exact blkNew _ _ (by simp))
  have HR := Lib.hid (hr1.out.stay hbW)
  have hs1 := hd1.size
  have HD := Lib.hid (hd1.trans (Dr.below hbW))
  have HW := Lib.hid hW
  clear hk1 hr1 hd1 hW hbW H hz1
  go_wp2_with fail
  rw [← HW.out]
  refine (pick_x rb (p + 1) _ W HR.out (by omega)).mono ?_
  rintro e w2 ⟨q, rfl, hq0, hq1, hd2, hr2, hz2⟩
  have HD2 := Lib.hid (HD.out.trans hd2)
  have ka := hd2.blk KA.out (by omega)
  have kb := hd2.blk KB.out (by omega)
  have hA : ∀ (j : Nat) (v : Value), #[Value.int .i64 k, .int .i64 (-1), .int .i64 4][j]? = some v → w2.cell? ⟨w1.heap.size, j, none⟩ = some v := fun j v hj => by rw [cell_of_row w2 _ j _ _ _ ka]; exact hj
  have hB : ∀ (j : Nat) (v : Value), #[Value.int .i64 0, .int .i64 0, .int .i64 0, .int .i64 0, .int .i64 0, .int .i64 0, .int .i64 1, .int .i64 2][j]? = some v → w2.cell? ⟨w1.heap.size + 1, j, none⟩ = some v := fun j v hj => by rw [cell_of_row w2 _ j _ _ _ kb]; exact hj
  have a0 := hA 0 _ rfl; have a1 := hA 1 _ rfl; have a2 := hA 2 _ rfl
  have b0 := hB 0 _ rfl; have b1 := hB 1 _ rfl; have b2 := hB 2 _ rfl; have b3 := hB 3 _ rfl; have b4 := hB 4 _ rfl; have b5 := hB 5 _ rfl; have b6 := hB 6 _ rfl; have b7 := hB 7 _ rfl
  clear hA hB ka kb KA KB HR HD HW hd2 hr2 hz2
  rcases (by omega : q = 0 ∨ q = 1 ∨ q = 2 ∨ q = 3 ∨ q = 4 ∨ q = 5 ∨ q = 6 ∨ q = 7) with rfl | rfl | rfl | rfl | rfl | rfl | rfl | rfl
  all_goals (
    clear hq0 hq1
    go_wp2
    go_ret
    exact ⟨_, rfl, by omega, HD2.out⟩)
set_option maxHeartbeats 800000 in
theorem DrawDeriveCount_c (v : Value) (bs : List UInt8) (w : World) (h : Bytes S w v bs) : Calls Try.prog 34 #[v] w (fun e w' => ∃ (u : Value) (xs : List (Int × Int)) (n : Int), e = .returned (.tuple #[u, .int .i64 n]) ∧ xs.length ≤ 61 ∧ (-1 ≤ n ∧ n ≤ 4) ∧ Below w.heap.size w w' ∧ Hid (PL0 w' u xs)) := by
  have H := Lib.hid h; clear h
  go_enter Try.func34, Try.ntmps34
  go_wp2_with fail
  refine (open_x _ _ w H.out).mono ?_
  rintro e w2 ⟨rb, rfl, hrb, hb2, hr2⟩
  have hs2 := hb2.size
  go_wp2_with fail
  refine (l20Expr_p rb 0 12 w2 hr2.out (by omega) (by omega)).mono ?_
  rintro e w3 ⟨u, xs, p3, rfl, hx, hp3, hd3, hr3, ho⟩
  obtain ⟨a, c, rfl, _⟩ := Pairs.shape ho.out
  go_wp2_with fail
  refine (l20Length_x rb p3 w3 hr3.out (by omega)).mono ?_
  rintro e w4 ⟨n, rfl, hn, hd4⟩
  have hF := Lib.hid (ho.out.grown hd4 (fun c hc => by cases hc; exact hr3.out.noPT))
  have hB := Lib.hid (hb2.trans ((hd3.trans hd4).bel hrb hs2))
  clear hd3 hd4 hr3 ho hb2 hr2
  go_wp2
  refine bodyPost_ret (results_tmp2 rfl _ _ _) rfl ?_
  exact ⟨_, xs, n, rfl, hx, hn, hB.out, hF⟩
end Go.Proofs.Ytbcjhiponbfbnaa
