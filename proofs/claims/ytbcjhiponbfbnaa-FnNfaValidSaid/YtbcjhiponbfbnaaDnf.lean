/- An automaton with choices that is drawn: the reference's l20Nfa. -/
import Derived.Deep.RegionHeld3
import Derived.Test.YtbcjhiponbfbnaaDnx
import Derived.Deep.Cut
import Derived.Deep.CutRange
import Derived.Deep.CutBlock
import Derived.Test.YtbcjhiponbfbnaaBnl
import Derived.Test.YtbcjhiponbfbnaaMke
import Derived.Test.YtbcjhiponbfbnaaApf
set_option linter.unusedSimpArgs false
set_option linter.unusedVariables false
set_option linter.unusedSectionVars false
namespace Go.Proofs.Ytbcjhiponbfbnaa
open Go.RowKit
set_option maxRecDepth 100000
variable {S T : Nat → Prop}
theorem own3Snoc {w : World} {base n : Nat} {e : TypeId} {v : Value} {ms : List (Int × Int × Int)} {a b c : Int} (h : w.ownsRow base e 3 v n (cells3 ms ++ [.int .i64 a, .int .i64 b, .int .i64 c])) (hn : n = ms.length + 1) : Own3 w base e v (ms ++ [(a, b, c)]) := by
  subst hn
  unfold Own3
  rw [cells3_app, List.length_append]
  exact h
theorem ownISnoc {w : World} {base n : Nat} {v : Value} {xs : List Int} {a : Int} (h : w.ownsRow base 3 1 v n (xs.map (Value.int .i64) ++ [.int .i64 a])) (hn : n = xs.length + 1) : OwnI w base v (xs ++ [a]) := by
  subst hn
  unfold OwnI
  rw [List.length_append, List.map_append]
  exact h
theorem drnFin {w W wr : World} {rb g q : Nat} {n : Int} {vm vf ve : Value} {ms : List (Int × Int × Int)} {fs es : List Int} (h : NDr W wr rb g q n vm vf ve ms fs es) (hz : W.heap.size = w.heap.size + 1) (hd : Dr rb w W) (hr : rb < w.heap.size)
    (hK : W.heap[w.heap.size]? = some (.cells #[.int .i64 0, .slice none 0 0, .slice none 0 0, .slice none 0 0] 36 (0, 0))) {p : Nat} (hq : q ≤ p + 400) (hm : ms.length ≤ 1000000) :
    (((((wr.setCell ⟨w.heap.size, 0, none⟩ (.int .i64 n)).setCell ⟨w.heap.size, 1, none⟩ vm).setCell ⟨w.heap.size, 2, none⟩ vf).setCell ⟨w.heap.size, 3, none⟩ ve).heap[w.heap.size]? = some (.cells #[.int .i64 n, vm, vf, ve] 36 (0, 0))) ∧
    DrN rb p 400 w (.returned (.agg #[.int .i64 n, vm, vf, ve])) ((((wr.setCell ⟨w.heap.size, 0, none⟩ (.int .i64 n)).setCell ⟨w.heap.size, 1, none⟩ vm).setCell ⟨w.heap.size, 2, none⟩ vf).setCell ⟨w.heap.size, 3, none⟩ ve) := by
  have hk := h.dr.blk hK (by omega)
  have hD := hd.trans h.dr
  have hne : ∀ o (v : Value) (x : World), Kp (W.heap.size ≤ ·) x (x.setCell ⟨w.heap.size, o, none⟩ v) := fun o v x => kpSet.mono fun b hb => by have hb' : W.heap.size ≤ b := hb; show b ≠ w.heap.size; omega
  refine ⟨heap_set (heap_set (heap_set (heap_set hk 0 _) 1 _) 2 _) 3 _, ⟨n, ms, fs, es⟩, vm, vf, ve, q, rfl, hq, (((hD.setCell (Nat.le_refl _) _).setCell (Nat.le_refl _) _).setCell (Nat.le_refl _) _).setCell (Nat.le_refl _) _, Lib.hid ((((h.rd.set hr _).set hr _).set hr _).set hr _), hm, Lib.hid ?_⟩
  exact ((h.r).stay ((((hne 0 _ _).trans (hne 1 _ _)).trans (hne 2 _ _)).trans (hne 3 _ _))).mono fun b hb => by have hb' : W.heap.size ≤ b := hb; show w.heap.size ≤ b; omega
set_option maxHeartbeats 8000000 in
theorem l20Nfa_x (rb p : Nat) (n : Int) (w : World) (h : Rdx w rb p) (hp : p ≤ 500000) (hn1 : -9223372036854775808 < n) :
    Calls Try.prog 50 #[.pointer (some ⟨rb, 0, none⟩), .int .i64 n] w (DrN rb p 400 w) := by
  have hrl := h.lt
  obtain ⟨W, hW⟩ : ∃ W, W = w.alloc (.cells #[.int .i64 0, .slice none 0 0, .slice none 0 0, .slice none 0 0] 36) := ⟨_, rfl⟩
  have HB0 : Hid (Below w.heap.size w W) := by rw [hW]; exact (Below.refl _ _).alloc (Nat.le_refl _) _
  have K4 : Hid (W.heap[w.heap.size]? = some (.cells #[.int .i64 0, .slice none 0 0, .slice none 0 0, .slice none 0 0] 36 (0, 0))) := by rw [hW]; exact blkNew _ _ rfl
  have hWs : W.heap.size = w.heap.size + 1 := by rw [hW]; simp
  have H := Lib.hid (h.stay HB0.out)
  have HW := Lib.hid hW; clear hW h
  go_enter Try.func50, Try.ntmps50
  go_wp2_with fail
  rw [← HW.out]
  refine (pick_x rb p _ W H.out (by omega)).mono ?_
  rintro e w1 ⟨r, rfl, hr0, hr1, hd1, hx1, hz1⟩
  have hr6 : r < 6 := by omega
  clear hr1
  obtain ⟨st, hst⟩ : ∃ st : Nat, 1 + r = (st : Int) := ⟨(1 + r).toNat, by omega⟩
  obtain ⟨w2, hw2⟩ : ∃ x, x = w1.alloc (.cells #[.int .i64 st, .slice none 0 0, .slice none 0 0, .slice none 0 0] 36) := ⟨_, rfl⟩
  obtain ⟨g, hg⟩ : ∃ g, g = w.heap.size + 1 := ⟨_, rfl⟩
  have hgW : W.heap.size ≤ g := by omega
  have HX2 : Hid (NDr W w2 rb g (p + 1) st (.slice none 0 0) (.slice none 0 0) (.slice none 0 0) [] [] []) := Lib.hid (by
    have hbl : Below w1.heap.size w1 w2 := by rw [hw2]; exact (Below.refl _ _).alloc (Nat.le_refl _) _
    refine ⟨hd1.trans (Dr.below hbl), hx1.out.stay hbl, by omega, hgW, ?_, ⟨rfl, .inl ⟨rfl, rfl⟩⟩, OwnI.nil _ _, OwnI.nil _ _, fun b hb => by cases hb⟩
    rw [hw2]; exact blkNew _ _ (by omega))
  have HST : Hid (1 ≤ st ∧ st ≤ 6) := Lib.hid (by omega)
  have HG := Lib.hid hg; have HW2 := Lib.hid hw2; have HSt := Lib.hid hst
  clear hg hw2 hd1 hx1 H HB0
  go_wp2_with fail
  rw [← HW2.out, ← HG.out]
  refine (pick_x rb (p + 1) _ w2 HX2.out.rd (by omega)).mono ?_
  rintro e w3 ⟨r2, rfl, hr20, hr21, hd3, hx3, hz3⟩
  obtain ⟨k0, hk0⟩ : ∃ k0 : Nat, r2 = (k0 : Int) := ⟨r2.toNat, by omega⟩
  subst hk0
  have hk14 : k0 ≤ 13 := by omega
  have HX3 := Lib.hid (HX2.out.pick hd3 hx3.out)
  clear hr20 hr21 hd3 hx3 hz3 HX2 HG HW2
  go_wp2_with fail
  go_loopw [6] (fun i wr => ∃ (k q : Nat) (vm : Value) (ms : List (Int × Int × Int)), k ≤ 13 ∧ i = .int .i64 k ∧ q + 3 * k ≤ p + 50 ∧ ms.length + k ≤ 13 ∧ Hid (NDr W wr rb g q st vm (.slice none 0 0) (.slice none 0 0) ms [] [])) (fun i _ => (intOf i).toNat)
  case atStart => exact ⟨k0, _, _, _, hk14, rfl, by omega, by simp; omega, HX3.out⟩
  case round =>
    obtain ⟨k, q, vm, ms, hk, rfl, hq, hml, HX⟩ := hrel
    generalize wr = wq at *
    clear HX3
    obtain ⟨am, lm, cm, rfl⟩ := HX.out.mv.sl
    by_cases hlt : 0 < k
    · have hkI : (0 : Int) < (k : Int) := by omega
      obtain ⟨k', rfl⟩ : ∃ k', k = k' + 1 := ⟨k - 1, by omega⟩
      have HX := Lib.hid (HX.out.stay (Below.refl _ _).drew)
      have hS : Hid (∀ w' q', NDr W w' rb g q' st (.slice am lm cm) (.slice none 0 0) (.slice none 0 0) ms [] [] → w'.cell? ⟨g, 0, none⟩ = some (.int .i64 st)) := Lib.hid (fun w' q' h => (blk4 h.hd).1)
      obtain ⟨y0, y1, _, _⟩ := blk4 HX.out.hd
      have hlm : Hid (lm = ms.length) := Lib.hid (by obtain ⟨a, c, e, _⟩ := HX.out.mv.shape; injection e)
      go_wp2_with fail
      go_region_law
        (first
          | (refine stepAppAt elMove (by decide) rfl (.tmp 21) (.tmp 34) rfl W.heap.size _ ms.length (cells3 ms) _ _ wp.heap.size rfl rfl (HX.out.mv.alloc _) (by exact blkNew _ _ rfl) rfl (by simp [Value.oneCell']) (by omega) (by have := HX.out.sz; simp; omega) ?_
             intro g7 cap7 w7 ho7 hg7 hat7
             have ho8 := own3Snoc ho7.out rfl
             have hg8 := grownTrans (grownBel ((Below.refl _ _).alloc (Nat.le_refl _) _)) hg7
             have HX7 := Lib.hid (HX.out.addM hg8 ho8)
             have hh := HX.out.hdM hg8
             obtain ⟨z0, z1, z2, z3⟩ := blk4 hh
             have zf := blkFz hh
             clear ho7 hg7 hat7 ho8 hg8 hh)
          | (go_simp
             refine (pick_x rb _ _ _ HX.out.rd (by omega)).mono ?_
             rintro e wp ⟨x, rfl, hx0, hx1, hd6, hr6', hz6⟩
             have HX := Lib.hid (HX.out.pick hd6 hr6'.out)
             obtain ⟨y0, y1, _, _⟩ := blk4 HX.out.hd
             have yA : ∀ o, (wp.alloc o).cell? ⟨g, 1, none⟩ = some (.slice am lm cm) := fun o => (blk4 (blkOld HX.out.hd)).2.1
             clear hd6 hr6' hz6))
      all_goals (
        clear y0 y1 yA z0 z1 z2 z3 zf HX hS
        go_wp2_with fail
        go_roundw
        case rel => exact ⟨k', _, _, _, by omega, by go_num, by omega, by rw [List.length_append]; simp; omega, HX7⟩
        case measure => simp [intOf])
    · obtain rfl : k = 0 := by omega
      clear hlt
      rw [show ((0 : Nat) : Int) = (0 : Int) from rfl]
      go_wp2_with fail
      go_loopw [7] (fun i wr => ∃ (j q : Nat) (vf ve : Value) (fs es : List Int), j ≤ st ∧ i = .int .i64 j ∧ q + 2 * (st - j) ≤ p + 70 ∧ fs.length ≤ j ∧ es.length ≤ j ∧ Hid (NDr W wr rb g q st (.slice am lm cm) vf ve ms fs es)) (fun i _ => st - (intOf i).toNat)
      case atStart => exact ⟨0, _, _, _, _, _, by omega, rfl, by omega, by simp, by simp, HX.out⟩
      case round =>
        obtain ⟨j, q, vf, ve, fs, es, hj, rfl, hq, hfl, hel, HX⟩ := hrel
        generalize wr = wz at *
        obtain ⟨a2, l2, c2, rfl⟩ := HX.out.fs.sl
        obtain ⟨a3, l3, c3, rfl⟩ := HX.out.en.sl
        obtain ⟨y0, y1, y2, y3⟩ := blk4 HX.out.hd
        have yf := blkFz HX.out.hd
        have hSZ := HX.out.sz
        by_cases hlt : j < st
        · have hjI : (j : Int) < (st : Int) := by omega
          by_cases hj0 : j = 0
          · subst hj0
            rw [show ((0 : Nat) : Int) = (0 : Int) from rfl]
            go_wp2_with (at_builtin; refine appIntF rfl (.tmp 51) (.tmp 53) rfl W.heap.size _ fs 0 _ rfl rfl HX.out.fs (by omega) HX.out.sz ?_; intro g7 cap7 w7 ho7 hg7 hat7; have HX7 := Lib.hid (HX.out.addF hg7 ho7.out (fun b hb hv => by (obtain rfl : g7 = b := by injection hb); exact Or.elim hat7.out (fun e => HX.out.ne _ e hv) (fun e => by have := (World.ownsRow.lt HX.out.en _ hv).2; omega))); obtain ⟨z0, z1, z2, z3⟩ := blk4 (HX.out.hdF hg7); have zf := blkFz (HX.out.hdF hg7))
            have HX := HX7
            clear z0 z1 z2 z3 zf HX7 hat7 hg7 ho7 y0 y1 y2 y3 yf
            have hSZ := HX.out.sz
            obtain ⟨y0, y1, y2, y3⟩ := blk4 HX.out.hd
            refine (pick_x rb _ _ _ HX.out.rd (by omega)).mono ?_
            rintro e wp ⟨x, rfl, hx0, hx1, hd6, hr6', hz6⟩
            have HX := Lib.hid (HX.out.pick hd6 hr6'.out)
            clear hd6 hr6' hz6 y0 y1 y2 y3
            obtain ⟨y0, y1, y2, y3⟩ := blk4 HX.out.hd
            have yf := blkFz HX.out.hd
            by_cases hxz : x = 0
            · have hxb : (x == 0) = true := by simpa using hxz
              go_wp2_with (at_builtin; refine appIntF rfl (.tmp 60) (.tmp 62) rfl W.heap.size _ es 0 _ rfl rfl HX.out.en (by omega) HX.out.sz ?_; intro g7 cap7 w7 ho7 hg7 hat7; have HX7 := Lib.hid (HX.out.addE hg7 ho7.out (fun b hb hv => by (obtain rfl : g7 = b := by injection hv); exact Or.elim hat7.out (fun e => HX.out.ne _ hb e) (fun e => by have := (World.ownsRow.lt HX.out.fs _ hb).2; omega))); obtain ⟨z0, z1, z2, z3⟩ := blk4 (HX.out.hdE hg7); have zf := blkFz (HX.out.hdE hg7))
              go_roundw
              case rel => exact ⟨1, _, _, _, _, _, by omega, by go_num, by omega, by first | omega | (rw [List.length_append, List.length_singleton]; omega), by rw [List.length_append, List.length_singleton]; omega, HX7⟩
              case measure => simp [intOf]; omega
            · have hxb : (x == 0) = false := by simpa using hxz
              go_wp2_with fail
              go_roundw
              case rel => exact ⟨1, _, _, _, _, _, by omega, by go_num, by omega, by first | omega | (rw [List.length_append, List.length_singleton]; omega), by omega, HX⟩
              case measure => simp [intOf]; omega
          · have hj0b : ((j : Int) == 0) = false := by simp; omega
            have hj0I : ¬ (j : Int) = 0 := by omega
            go_wp2_with fail
            refine (pick_x rb _ _ _ HX.out.rd (by omega)).mono ?_
            rintro e wp ⟨x, rfl, hx0, hx1, hd6, hr6', hz6⟩
            have HX := Lib.hid (HX.out.pick hd6 hr6'.out)
            clear hd6 hr6' hz6 y0 y1 y2 y3 yf hSZ
            obtain ⟨y0, y1, y2, y3⟩ := blk4 HX.out.hd
            have yf := blkFz HX.out.hd
            by_cases hxz : x = 0
            · have hxb : (x == 0) = true := by simpa using hxz
              obtain ⟨wq2, hwq2⟩ : ∃ z, z = wp := ⟨_, rfl⟩
              subst hwq2
              clear hx0 hx1
              go_wp2_with (at_builtin; refine appIntF rfl (.tmp 51) (.tmp 53) rfl W.heap.size _ fs j _ rfl rfl HX.out.fs (by omega) HX.out.sz ?_; intro g7 cap7 w7 ho7 hg7 hat7; have HX7 := Lib.hid (HX.out.addF hg7 ho7.out (fun b hb hv => by (obtain rfl : g7 = b := by injection hb); exact Or.elim hat7.out (fun e => HX.out.ne _ e hv) (fun e => by have := (World.ownsRow.lt HX.out.en _ hv).2; omega))); obtain ⟨z0, z1, z2, z3⟩ := blk4 (HX.out.hdF hg7); have zf := blkFz (HX.out.hdF hg7))
              have HX := HX7
              clear z0 z1 z2 z3 zf HX7 hat7 hg7 ho7 y0 y1 y2 y3 yf
              have hSZ := HX.out.sz
              obtain ⟨y0, y1, y2, y3⟩ := blk4 HX.out.hd
              refine (pick_x rb _ _ _ HX.out.rd (by omega)).mono ?_
              rintro e wp ⟨x, rfl, hx0, hx1, hd6, hr6', hz6⟩
              have HX := Lib.hid (HX.out.pick hd6 hr6'.out)
              clear hd6 hr6' hz6 y0 y1 y2 y3
              obtain ⟨y0, y1, y2, y3⟩ := blk4 HX.out.hd
              have yf := blkFz HX.out.hd
              by_cases hxz : x = 0
              · have hxb : (x == 0) = true := by simpa using hxz
                go_wp2_with (at_builtin; refine appIntF rfl (.tmp 60) (.tmp 62) rfl W.heap.size _ es j _ rfl rfl HX.out.en (by omega) HX.out.sz ?_; intro g7 cap7 w7 ho7 hg7 hat7; have HX7 := Lib.hid (HX.out.addE hg7 ho7.out (fun b hb hv => by (obtain rfl : g7 = b := by injection hv); exact Or.elim hat7.out (fun e => HX.out.ne _ hb e) (fun e => by have := (World.ownsRow.lt HX.out.fs _ hb).2; omega))); obtain ⟨z0, z1, z2, z3⟩ := blk4 (HX.out.hdE hg7); have zf := blkFz (HX.out.hdE hg7))
                go_roundw
                case rel => exact ⟨j + 1, _, _, _, _, _, by omega, by go_num, by omega, by first | omega | (rw [List.length_append, List.length_singleton]; omega), by rw [List.length_append, List.length_singleton]; omega, HX7⟩
                case measure => simp [intOf]; omega
              · have hxb : (x == 0) = false := by simpa using hxz
                go_wp2_with fail
                go_roundw
                case rel => exact ⟨j + 1, _, _, _, _, _, by omega, by go_num, by omega, by first | omega | (rw [List.length_append, List.length_singleton]; omega), by omega, HX⟩
                case measure => simp [intOf]; omega
            · have hxb : (x == 0) = false := by simpa using hxz
              go_wp2_with fail
              clear hx0 hx1 y0 y1 y2 y3 yf
              have hSZ := HX.out.sz
              obtain ⟨y0, y1, y2, y3⟩ := blk4 HX.out.hd
              refine (pick_x rb _ _ _ HX.out.rd (by omega)).mono ?_
              rintro e wp ⟨x, rfl, hx0, hx1, hd6, hr6', hz6⟩
              have HX := Lib.hid (HX.out.pick hd6 hr6'.out)
              clear hd6 hr6' hz6 y0 y1 y2 y3
              obtain ⟨y0, y1, y2, y3⟩ := blk4 HX.out.hd
              have yf := blkFz HX.out.hd
              by_cases hxz : x = 0
              · have hxb : (x == 0) = true := by simpa using hxz
                go_wp2_with (at_builtin; refine appIntF rfl (.tmp 60) (.tmp 62) rfl W.heap.size _ es j _ rfl rfl HX.out.en (by omega) HX.out.sz ?_; intro g7 cap7 w7 ho7 hg7 hat7; have HX7 := Lib.hid (HX.out.addE hg7 ho7.out (fun b hb hv => by (obtain rfl : g7 = b := by injection hv); exact Or.elim hat7.out (fun e => HX.out.ne _ hb e) (fun e => by have := (World.ownsRow.lt HX.out.fs _ hb).2; omega))); obtain ⟨z0, z1, z2, z3⟩ := blk4 (HX.out.hdE hg7); have zf := blkFz (HX.out.hdE hg7))
                go_roundw
                case rel => exact ⟨j + 1, _, _, _, _, _, by omega, by go_num, by omega, by first | omega | (rw [List.length_append, List.length_singleton]; omega), by rw [List.length_append, List.length_singleton]; omega, HX7⟩
                case measure => simp [intOf]; omega
              · have hxb : (x == 0) = false := by simpa using hxz
                go_wp2_with fail
                go_roundw
                case rel => exact ⟨j + 1, _, _, _, _, _, by omega, by go_num, by omega, by first | omega | (rw [List.length_append, List.length_singleton]; omega), by omega, HX⟩
                case measure => simp [intOf]; omega
        · obtain rfl : j = st := by omega
          have hjn : ¬ ((j : Int) < (j : Int)) := by omega
          go_wp2_with fail
          have HM13 : Hid (ms.length ≤ 13 ∧ fs.length ≤ 6 ∧ es.length ≤ 6) := Lib.hid (by have := HST.out; omega)
          refine (odd_x rb q 4 wz HX.out.rd (by omega) (by omega)).mono ?_
          rintro e wo ⟨bo, q2, rfl, hq2, hdo, hro, hzo⟩
          have HX2 := Lib.hid (HX.out.pick hdo hro.out)
          have hq9 : q2 ≤ p + 71 := by omega
          clear HX y0 y1 y2 y3 yf hSZ hdo hro hzo hq hq2 hfl hel hml hk hjn hlt
          go_upto_if 66 with fail
          go_cut [] from 67 to 77 (fun wx => ∃ (q3 : Nat) (n3 : Int) (vm3 vf3 ve3 : Value) (ms3 : List (Int × Int × Int)) (fs3 es3 : List Int), q3 ≤ p + 140 ∧ Hid (ms3.length ≤ 1000 ∧ fs3.length ≤ 1000 ∧ es3.length ≤ 1000) ∧ Hid (NDr W wx rb g q3 n3 vm3 vf3 ve3 ms3 fs3 es3))
          case first =>
            cases bo
            · go_wp2_with fail
              go_meet
              exact ⟨_, _, _, _, _, _, _, _, by omega, Lib.hid (by have := HM13.out; omega), HX2⟩
            · go_wp2_with fail
              refine (pick_x rb q2 3 wo HX2.out.rd (by omega)).mono ?_
              rintro e w5 ⟨r5, rfl, h50, h51, hd5, hr5, hz5⟩
              have HX5 := Lib.hid (HX2.out.pick hd5 hr5.out)
              obtain ⟨d5, hd5'⟩ : ∃ d5 : Nat, 1 + r5 = (d5 : Int) := ⟨(1 + r5).toNat, by omega⟩
              have hd53 : d5 ≤ 3 := by omega
              have hw5 : IntKind.i64.wrap (1 + r5) = (d5 : Int) := by rw [hd5']; exact IntWalk.i64_in _ (by omega)
              clear h50 h51 hd5 hr5 hz5 hd5'
              go_wp2_with fail
              refine (l20Make_c d5 hd53 rb (q2 + 1) true w5 HX5.out.rd (by omega)).mono ?_
              rintro e w6 ⟨v6, xs, p6, rfl, hxl, hp6, hd6, hr6, ho6⟩
              have HX6 := Lib.hid (HX5.out.pick hd6 hr6.out)
              have hp69 : p6 ≤ p + 132 := by omega
              obtain ⟨a6, c6, rfl, _⟩ := (show Pairs _ w6 v6 xs from ho6.out.rd).shape
              have hrd6 := Lib.hid (show Pairs _ w6 (.slice a6 xs.length c6) xs from ho6.out.rd)
              have hx20 : xs.length ≤ 1048576 := by omega
              clear hd6 hr6 ho6 hp6 hxl hw5
              go_wp2_with fail
              refine (sBuildNfa_c _ xs w6 hrd6.out hx20).mono ?_
              rintro e w7 ⟨um, uf, ue, rfl, hb7, ho7⟩
              have HX7 := Lib.hid (HX6.out.stay hb7)
              have HLN := Lib.hid (bvN_len xs)
              generalize bvN xs = D at *
              generalize bvB xs = ok at *
              obtain ⟨a1, n1, c1, rfl⟩ := ho7.out.1.sl
              obtain ⟨a2', n2, c2', rfl⟩ := ho7.out.2.1.sl
              obtain ⟨a3', n3, c3', rfl⟩ := ho7.out.2.2.1.sl
              obtain ⟨W8, hW8⟩ : ∃ z, z = w7.alloc (.cells #[.int .i64 D.states, .slice a1 n1 c1, .slice a2' n2 c2', .slice a3' n3 c3'] 36) := ⟨_, rfl⟩
              have hb8 : Below w7.heap.size w7 W8 := by rw [hW8]; exact (Below.refl _ _).alloc (Nat.le_refl _) _
              have K8 : Hid (W8.heap[w7.heap.size]? = some (.cells #[.int .i64 D.states, .slice a1 n1 c1, .slice a2' n2 c2', .slice a3' n3 c3'] 36 (0, 0))) := Lib.hid (by rw [hW8]; exact blkNew _ _ rfl)
              have HX8 := Lib.hid (HX7.out.stay hb8)
              have hbase : W.heap.size ≤ w6.heap.size := HX6.out.sz
              have HO8 : Hid (NfaO W.heap.size W8 _ _ _ D) := Lib.hid ((ho7.out.base hbase).stay hb8)
              have HW8 := Lib.hid hW8
              obtain ⟨k0', k1', k2', k3'⟩ := blk4 K8.out
              have kf := blkFz K8.out
              obtain ⟨y0, y1, y2, y3⟩ := blk4 HX8.out.hd
              have yf := blkFz HX8.out.hd
              rw [hW8] at k0' k1' k2' k3' kf y0 y1 y2 y3 yf
              clear hW8 hb8 hb7 hbase ho7 HX2 HX5 HX6 HX7
              cases ok
              · go_wp2_with fail
                go_meet
                rw [← HW8.out]
                exact ⟨_, _, _, _, _, _, _, _, by omega, Lib.hid (by have := HM13.out; omega), HX8⟩
              · go_wp2_with fail
                go_meet
                rw [← HW8.out]
                exact ⟨_, _, _, _, _, _, _, _, by omega, Lib.hid (by have := HLN.out; unfold lenN at this; omega), Lib.hid (HX8.out.put HO8.out)⟩
          case rest =>
            obtain ⟨q3, n3, vm3, vf3, ve3, ms3, fs3, es3, hq3, HL3, HX3⟩ := hcut
            generalize wc = wr at *
            obtain ⟨am3, nm3, cm3, rfl⟩ := HX3.out.mv.sl
            obtain ⟨af3, nf3, cf3, rfl⟩ := HX3.out.fs.sl
            obtain ⟨ae3, ne3, ce3, rfl⟩ := HX3.out.en.sl
            clear HX2 HM13
            have hL1 := HL3.out.1
            have hL2 := HL3.out.2.1
            have hL3 := HL3.out.2.2
            have hdW : Hid (Dr rb w W) := Lib.hid (by rw [HW.out]; exact Dr.below ((Below.refl _ _).alloc (Nat.le_refl _) _))
            go_wp2_with fail
            refine (odd_x rb q3 n wr HX3.out.rd (by omega) hn1).mono ?_
            rintro e w4 ⟨b4, q4, rfl, hq4, hd4, hr4, hz4⟩
            have HX4 := Lib.hid (HX3.out.pick hd4 hr4.out)
            clear hd4 hr4 hz4 HX3
            cases b4
            · have hf9 := drnFin (w := w) (p := p) HX4.out hWs hdW.out hrl K4.out (by omega) (by omega)
              obtain ⟨e0, e1, e2, e3⟩ := blk4 (HX4.out.hd)
              have ef := blkFz HX4.out.hd
              have hk4 := HX4.out.dr.blk K4.out (by omega)
              have hf4 := blkFz hk4
              obtain ⟨t0, t1, t2, t3⟩ := blk4 hk4
              obtain ⟨l0, l1, l2, l3⟩ := blk4 hf9.1
              have HF := Lib.hid hf9.2
              clear hf9 hk4
              go_wp2
              refine bodyPost_ret (v := .agg #[.int .i64 (n3), .slice am3 nm3 cm3, .slice af3 nf3 cf3, .slice ae3 ne3 ce3]) (by simp [results, Try.results50, go_sem, l0, l1, l2, l3]) rfl ?_
              exact HF.out
            · go_wp2_with fail
              refine (pick_x rb q4 4 w4 HX4.out.rd (by omega)).mono ?_
              rintro e w5 ⟨r5, rfl, h50, h51, hd5, hr5, hz5⟩
              have HX5 := Lib.hid (HX4.out.pick hd5 hr5.out)
              obtain ⟨y0, y1, y2, y3⟩ := blk4 HX5.out.hd
              have yf := blkFz HX5.out.hd
              have hSZ := HX5.out.sz
              rcases (by omega : r5 = 0 ∨ r5 = 1 ∨ r5 = 2 ∨ r5 = 3) with rfl | rfl | rfl | rfl
              all_goals clear h50 h51 hd5 hr5 hz5 HX4
              · go_wp2_with (at_builtin; refine app3 elMove (by decide) rfl (.tmp 92) (.tmp 94) rfl W.heap.size _ ms3 _ _ _ w5 rfl rfl rfl HX5.out.mv (by omega) hSZ ?_; intro v6 w6 h6 hg6; obtain ⟨a1', n1', ca1', rfl⟩ := h6.out.sl; have HX6 := Lib.hid (HX5.out.addM hg6 h6.out); obtain ⟨z0, z1, z2, z3⟩ := blk4 (HX5.out.hdM hg6); have zf := blkFz (HX5.out.hdM hg6); have hf9 := drnFin (w := w) (p := p) HX6.out hWs hdW.out hrl K4.out (by omega) (by simp; omega); obtain ⟨e0, e1, e2, e3⟩ := blk4 (HX6.out.hd); have ef := blkFz HX6.out.hd; have hk4 := HX6.out.dr.blk K4.out (by omega); have hf4 := blkFz hk4; obtain ⟨t0, t1, t2, t3⟩ := blk4 hk4; obtain ⟨l0, l1, l2, l3⟩ := blk4 hf9.1; have HF := Lib.hid hf9.2; clear hf9 hk4)
                refine bodyPost_ret (v := .agg #[.int .i64 (n3), .slice a1' n1' ca1', .slice af3 nf3 cf3, .slice ae3 ne3 ce3]) (by simp [results, Try.results50, go_sem, l0, l1, l2, l3]) rfl ?_
                exact HF.out
              · go_wp2_with (at_builtin; refine appIntF rfl (.tmp 100) (.tmp 103) rfl W.heap.size _ es3 n3 _ rfl rfl HX5.out.en (by omega) HX5.out.sz ?_; intro g7 cap7 w7 ho7 hg7 hat7; have HX7 := Lib.hid (HX5.out.addE hg7 ho7.out (fun b hb hv => by (obtain rfl : g7 = b := by injection hv); exact Or.elim hat7.out (fun e => HX5.out.ne _ hb e) (fun e => by have := (World.ownsRow.lt HX5.out.fs _ hb).2; omega))); obtain ⟨z0, z1, z2, z3⟩ := blk4 (HX5.out.hdE hg7); have zf := blkFz (HX5.out.hdE hg7); have hf9 := drnFin (w := w) (p := p) HX7.out hWs hdW.out hrl K4.out (by omega) (by omega); obtain ⟨e0, e1, e2, e3⟩ := blk4 (HX7.out.hd); have ef := blkFz HX7.out.hd; have hk4 := HX7.out.dr.blk K4.out (by omega); have hf4 := blkFz hk4; obtain ⟨t0, t1, t2, t3⟩ := blk4 hk4; obtain ⟨l0, l1, l2, l3⟩ := blk4 hf9.1; have HF := Lib.hid hf9.2; clear hf9 hk4)
                refine bodyPost_ret (v := .agg #[.int .i64 (n3), .slice am3 nm3 cm3, .slice af3 nf3 cf3, .slice (some ⟨g7, 0, none⟩) (es3.length + 1) cap7]) (by simp [results, Try.results50, go_sem, l0, l1, l2, l3]) rfl ?_
                exact HF.out
              · go_wp2_with (at_builtin; refine appIntF rfl (.tmp 109) (.tmp 110) rfl W.heap.size _ fs3 (-1) _ rfl rfl HX5.out.fs (by omega) HX5.out.sz ?_; intro g7 cap7 w7 ho7 hg7 hat7; have HX7 := Lib.hid (HX5.out.addF hg7 ho7.out (fun b hb hv => by (obtain rfl : g7 = b := by injection hb); exact Or.elim hat7.out (fun e => HX5.out.ne _ e hv) (fun e => by have := (World.ownsRow.lt HX5.out.en _ hv).2; omega))); obtain ⟨z0, z1, z2, z3⟩ := blk4 (HX5.out.hdF hg7); have zf := blkFz (HX5.out.hdF hg7); have hf9 := drnFin (w := w) (p := p) HX7.out hWs hdW.out hrl K4.out (by omega) (by omega); obtain ⟨e0, e1, e2, e3⟩ := blk4 (HX7.out.hd); have ef := blkFz HX7.out.hd; have hk4 := HX7.out.dr.blk K4.out (by omega); have hf4 := blkFz hk4; obtain ⟨t0, t1, t2, t3⟩ := blk4 hk4; obtain ⟨l0, l1, l2, l3⟩ := blk4 hf9.1; have HF := Lib.hid hf9.2; clear hf9 hk4)
                refine bodyPost_ret (v := .agg #[.int .i64 (n3), .slice am3 nm3 cm3, .slice (some ⟨g7, 0, none⟩) (fs3.length + 1) cap7, .slice ae3 ne3 ce3]) (by simp [results, Try.results50, go_sem, l0, l1, l2, l3]) rfl ?_
                exact HF.out
              · obtain ⟨W6, hW6⟩ : ∃ z, z = w5.alloc (.cells #[.int .i64 (-1), .int .i64 41] 3) := ⟨_, rfl⟩
                have hb6 : Below w5.heap.size w5 W6 := by rw [hW6]; exact (Below.refl _ _).alloc (Nat.le_refl _) _
                have K6 : Hid (W6.heap[w5.heap.size]? = some (.cells #[.int .i64 (-1), .int .i64 41] 3 (0, 0))) := Lib.hid (by rw [hW6]; exact blkNew _ _ rfl)
                have HX6 := Lib.hid (HX5.out.stay hb6)
                have HW6 := Lib.hid hW6
                have hr5' : rb < w5.heap.size := by have := HX5.out.rl; omega
                clear hW6 hb6 y0 y1 y2 y3 yf
                go_wp2_with fail
                rw [← HW6.out]
                refine (pick_x rb (q4 + 1) 2 W6 HX6.out.rd (by omega)).mono ?_
                rintro e w7 ⟨r7, rfl, h70, h71, hd7, hr7, hz7⟩
                have HX7 := Lib.hid (HX6.out.pick hd7 hr7.out)
                have K7 := Lib.hid (hd7.blk K6.out (by omega))
                obtain ⟨m0, m1, mf0, mf1⟩ := blk2 K7.out
                obtain ⟨y0, y1, y2, y3⟩ := blk4 HX7.out.hd
                have yf := blkFz HX7.out.hd
                have hge : w5.heap.size ≠ g := fun e => by have := (Array.getElem?_eq_some_iff.1 HX5.out.hd).1; omega
                rcases (by omega : r7 = 0 ∨ r7 = 1) with rfl | rfl
                all_goals clear h70 h71 hd7 hr7 hz7
                · have HX8 := Lib.hid (HX7.out.setN (-1))
                  have hf9 := drnFin (w := w) (p := p) HX8.out hWs hdW.out hrl K4.out (by omega) (by omega)
                  obtain ⟨e0, e1, e2, e3⟩ := blk4 (HX8.out.hd)
                  have ef := blkFz HX8.out.hd
                  have hk4 := HX8.out.dr.blk K4.out (by omega)
                  have hf4 := blkFz hk4
                  obtain ⟨t0, t1, t2, t3⟩ := blk4 hk4
                  obtain ⟨l0, l1, l2, l3⟩ := blk4 hf9.1
                  have HF := Lib.hid hf9.2
                  clear hf9 hk4
                  go_wp2
                  refine bodyPost_ret (v := .agg #[.int .i64 (-1), .slice am3 nm3 cm3, .slice af3 nf3 cf3, .slice ae3 ne3 ce3]) (by simp [results, Try.results50, go_sem, l0, l1, l2, l3]) rfl ?_
                  exact HF.out
                · have HX8 := Lib.hid (HX7.out.setN (41))
                  have hf9 := drnFin (w := w) (p := p) HX8.out hWs hdW.out hrl K4.out (by omega) (by omega)
                  obtain ⟨e0, e1, e2, e3⟩ := blk4 (HX8.out.hd)
                  have ef := blkFz HX8.out.hd
                  have hk4 := HX8.out.dr.blk K4.out (by omega)
                  have hf4 := blkFz hk4
                  obtain ⟨t0, t1, t2, t3⟩ := blk4 hk4
                  obtain ⟨l0, l1, l2, l3⟩ := blk4 hf9.1
                  have HF := Lib.hid hf9.2
                  clear hf9 hk4
                  go_wp2
                  refine bodyPost_ret (v := .agg #[.int .i64 (41), .slice am3 nm3 cm3, .slice af3 nf3 cf3, .slice ae3 ne3 ce3]) (by simp [results, Try.results50, go_sem, l0, l1, l2, l3]) rfl ?_
                  exact HF.out
end Go.Proofs.Ytbcjhiponbfbnaa
