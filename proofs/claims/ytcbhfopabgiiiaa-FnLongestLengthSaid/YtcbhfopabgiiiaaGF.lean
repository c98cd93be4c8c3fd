/- Sets of states: the reference's, as far as that they are sets of as many states.
The sets of states that are met, and the automaton of them: the reference's, as far as that it is an automaton.
The automaton of the sets of states: the reference's, as far as that it is an automaton. -/
import Derived.Deep.LoopGhost
import Derived.Deep.RegionHeld3
import Derived.Deep.RegionLaw
import Derived.Test.YtcbhfopabgiiiaaGC
import Derived.Test.YtcbhfopabgiiiaaGB
import Derived.Test.YtcbhfopabgiiiaaGA
import Derived.Test.YtcbhfopabgiiiaaGD
set_option linter.unusedSimpArgs false
set_option linter.unusedVariables false
set_option linter.unusedSectionVars false
namespace Go.Proofs.Ytcbhfopabgiiiaa
open Go.RowKit
set_option maxRecDepth 100000
variable {S T : Nat → Prop}
/-- A cell of a row of the call's own is stored. -/
theorem ownSetIn {w : World} {base : Nat} {e : TypeId} {g n cap : Nat} {xs : List Value} (h : w.ownsRow base e 1 (.slice (some ⟨g, 0, none⟩) n cap) n xs) (i : Nat) (u : Value) : (w.setCell ⟨g, i, none⟩ u).ownsRow base e 1 (.slice (some ⟨g, 0, none⟩) n cap) n (xs.set i u) := by
  obtain ⟨hl, h | ⟨g', cap', cur, hv, hb, hh, hn, hm, hs, ht⟩⟩ := h
  · cases h.1
  · cases hv
    refine ⟨by rw [List.length_set]; exact hl, .inr ⟨g, cap, cur.setIfInBounds i u, rfl, hb, heap_set hh i u, hn, hm, by rw [Array.size_setIfInBounds]; exact hs, ?_⟩⟩
    rw [Array.toList_setIfInBounds, List.take_set, ht]
theorem ownCell {w : World} {base : Nat} {e : TypeId} {g n cap : Nat} {xs : List Value} (h : w.ownsRow base e 1 (.slice (some ⟨g, 0, none⟩) n cap) n xs) {i : Nat} (hi : i < xs.length) : w.cell? ⟨g, i, none⟩ = some xs[i] ∧ w.frozen? ⟨g, i, none⟩ = false := by
  have hf := ownAt h
  obtain ⟨b, off, e, _, c, f⟩ := hf.at hi
  cases e
  rw [Nat.zero_add] at c
  exact ⟨c, f i⟩
theorem rowOwn {α : Type} {f : α → Value} {e : TypeId} {w : World} {b n base : Nat} {xs : List α} (h : Row f e w b xs) (hn : xs.length = n) (hb : base ≤ b) (h9 : n ≤ 1000000000) : w.ownsRow base e 1 (.slice (some ⟨b, 0, none⟩) n n) n (xs.map f) := by
  subst hn
  exact ⟨by simp, .inr ⟨b, _, _, rfl, hb, h, Nat.le_refl _, by unfold maxLen; omega, by simp, by simp [List.take_of_length_le]⟩⟩
theorem bools_one (xs : List Bool) : ∀ u ∈ xs.map Value.bool, u.oneCell' = true := by intro u hu; obtain ⟨x, _, rfl⟩ := List.mem_map.1 hu; rfl
/-- How many are missing. -/
def miss (xs : List Bool) : Nat := xs.countP (! ·)
theorem miss_set {xs : List Bool} {i : Nat} (hi : i < xs.length) (h : xs[i] = false) : miss (xs.set i true) < miss xs := by
  unfold miss
  induction xs generalizing i with
  | nil => simp at hi
  | cons a t ih =>
    cases i with
    | zero => simp at h; subst h; simp [List.countP_cons]
    | succ i =>
      simp only [List.set_cons_succ, List.countP_cons]
      have := ih (i := i) (by simpa using hi) (by simpa using h)
      omega
/-- Moves, first states and ends of an automaton with choices are numbers of states. -/
structure WN (D : NfaD) (N : Nat) : Prop where
  st : D.states = N
  le : N ≤ 1000
  ml : D.moves.length ≤ 100000
  mv : ∀ m ∈ D.moves, (0 ≤ m.1 ∧ m.1 < N) ∧ (0 ≤ m.2.2 ∧ m.2.2 < N)
  fs : ∀ x ∈ D.firsts, 0 ≤ x ∧ x < N
  en : ∀ x ∈ D.ends, 0 ≤ x ∧ x < N
/-- A set of N states, in memory of the call's own. -/
def SetB (base N : Nat) (v : Value) (w : World) : Prop := ∃ m : List Bool, m.length = N ∧ OwnB w base v m
set_option maxHeartbeats 800000 in
theorem l8Flags_c (v : Value) (xs : List Int) (N : Nat) (w : World) (h : Ints S w v xs) (hx : ∀ x ∈ xs, 0 ≤ x ∧ x < N) (hN : N ≤ 1000) : Calls Try.prog 205 #[v, .int .i64 N] w (RVn w (SetB w.heap.size N)) := by
  obtain ⟨a, cap, rfl, hn⟩ := h.shape
  have H := Lib.hid h; clear h
  have HX := Lib.hid hx; clear hx
  go_enter Try.func205, Try.ntmps205
  go_wp2_with (
    (at_make; refine makeRow ezBool (by decide) rfl (.tmp 7) (.tmp 7) rfl N _ rfl rfl (by omega) ?_)
    intro w1 hr1 hb1 hz1)
  go_loopw [6] (fun i wr => ∃ (k : Nat) (m : List Bool), k ≤ xs.length ∧ i = .int .i64 k ∧ Hid (m.length = N) ∧ Hid (Below w.heap.size w wr) ∧ Hid (RowB wr w.heap.size m)) (fun i _ => xs.length - (intOf i).toNat)
  case atStart => exact ⟨0, _, by omega, rfl, by simp [Hid], hb1, hr1⟩
  case round =>
    clear hr1 hb1 hz1
    obtain ⟨k, m, hk, rfl, hm, hb, hr⟩ := hrel
    by_cases hlt : k < xs.length
    · obtain ⟨b, off, rfl, hc⟩ := (H.out.stay (kpB hb.out)).at hlt
      have hxk := HX.out _ (List.getElem_mem hlt)
      generalize xs[k] = x at *
      obtain ⟨q, rfl⟩ := Int.eq_ofNat_of_zero_le hxk.1
      have hq : q < N := by omega
      have hqI : (q : Int) < (N : Int) := by omega
      obtain ⟨u, hu⟩ : ∃ u, wr.cell? ⟨w.heap.size, q, none⟩ = some u := ⟨_, hr.out.cell (i := q) (by rw [hm.out]; exact hq)⟩
      have hfz := hr.out.fz q
      have hr2 := Lib.hid (hr.out.set q true)
      have hb2 := Lib.hid (hb.out.setCell (p := ⟨w.heap.size, q, none⟩) (Nat.le_refl _) (.bool true))
      have hm2 : Hid ((m.set q true).length = N) := Lib.hid (by rw [List.length_set]; exact hm.out)
      clear hxk hr hb
      go_wp2
      go_roundw
      case rel => exact ⟨k + 1, _, by omega, by go_num, hm2, hb2, hr2⟩
      case measure => simp [intOf]; omega
    · obtain rfl : k = xs.length := by omega
      go_wp2
      go_ret
      refine RVn.mk hb.out ⟨m, hm.out, ?_⟩
      have := rowOwn (base := w.heap.size) hr.out hm.out (Nat.le_refl _) (by omega)
      unfold OwnB
      rw [hm.out]
      exact this
set_option maxHeartbeats 2000000 in
theorem l8Close_c (vm vf ve v : Value) (D : NfaD) (N : Nat) (xs : List Bool) (w : World) (h : NfaR S w vm vf ve D) (hD : WN D N) (hx : Bools T w v xs) (hl : xs.length = N) :
    Calls Try.prog 204 #[.agg #[.int .i64 N, vm, vf, ve], v] w (RVn w (SetB w.heap.size N)) := by
  obtain ⟨am, cm, af, cf, ae, ce, rfl, rfl, rfl, hn1, hn2, hn3⟩ := h.shapes
  obtain ⟨W, hW⟩ : ∃ W, W = (w.alloc (.cells #[.int .i64 N, .slice am D.moves.length cm, .slice af D.firsts.length cf, .slice ae D.ends.length ce] 75)).alloc (.cells #[] 4) := ⟨_, rfl⟩
  have Hb0 : Hid (Below w.heap.size w W) := by rw [hW]; exact ((Below.refl _ _).alloc (Nat.le_refl _) _).alloc (by simp) _
  have K0 : Hid (W.heap[w.heap.size]? = some (.cells #[.int .i64 N, .slice am D.moves.length cm, .slice af D.firsts.length cf, .slice ae D.ends.length ce] 75 (0, 0))) := by rw [hW]; exact blkOld (blkNew _ _ rfl)
  have HO : Hid (OwnB W (w.heap.size + 1) (.slice (some ⟨w.heap.size + 1, 0, none⟩) 0 0) []) := by rw [hW]; have := ownLit (w := w.alloc (.cells #[.int .i64 N, .slice am D.moves.length cm, .slice af D.firsts.length cf, .slice ae D.ends.length ce] 75)) (base := w.heap.size + 1) (e := 4) (sz := 1) (n := 0) [] (by simp) (by omega) rfl; rw [World.size_alloc] at this; exact this
  have hWs : W.heap.size = w.heap.size + 2 := by rw [hW]; simp
  have H0 := Lib.hid h.1; have HX := Lib.hid (hx.stay (kpB Hb0.out))
  clear h hx
  obtain ⟨ax, cx, rfl, _⟩ := HX.out.shape
  have hbW : w.heap.size + 1 ≤ W.heap.size := by omega
  have Hs := Lib.hid hWs; clear hWs
  have HW := Lib.hid hW; clear hW
  have hN9 := hD.le
  have hml9 := hD.ml
  have HL := Lib.hid hl
  rw [hl]
  rw [hl] at HX
  have HD := Lib.hid hD; clear hD hl
  go_enter Try.func204, Try.ntmps204
  go_wp2_with (at_builtin; rw [← HW.out]; refine appMany (S := T) elBool (by decide) rfl (.tmp 9) (.tmp 10) rfl (w.heap.size + 1) _ _ 0 N [] (xs.map .bool) W rfl rfl HO.out (by have := HX.out; unfold Bools at this; rw [HL.out] at this; exact this) (by rw [List.length_map, HL.out]; omega) (bools_one xs) (by omega) hbW ?_; intro v2 w2 h2 hg2)
  have hOwn : Hid (OwnB w2 (w.heap.size + 1) v2 xs) := Lib.hid (by have := h2.out; rw [Nat.zero_add, List.nil_append] at this; unfold OwnB; rw [HL.out]; exact this)
  have hbel : Hid (Below w.heap.size w w2) := Lib.hid (Hb0.out.grown hg2 Hb0.out.size (fun k hk => by have := (World.ownsRow.lt HO.out k hk).1; omega))
  have hk2 : Hid (w2.heap[w.heap.size]? = some (.cells #[.int .i64 N, .slice am D.moves.length cm, .slice af D.firsts.length cf, .slice ae D.ends.length ce] 75 (0, 0))) := Lib.hid (blkGrow hg2 K0.out (fun e => ownNe HO.out K0.out (by decide) e.symm))
  clear h2 hg2 HO K0 Hb0 HX
  obtain ⟨a2, c2, hv2, _⟩ := hOwn.out.shape
  rw [HL.out] at hv2
  subst hv2
  go_loopg [6] (2 * miss xs + 1) (fun m c wr => ∃ (bb : Bool) (ys : List Bool), c = .bool bb ∧ Hid (ys.length = N) ∧ Hid (2 * miss ys + (if bb then 1 else 0) ≤ m) ∧ Hid (Below w.heap.size w wr) ∧ Hid (wr.heap[w.heap.size]? = some (.cells #[.int .i64 N, .slice am D.moves.length cm, .slice af D.firsts.length cf, .slice ae D.ends.length ce] 75 (0, 0))) ∧ Hid (OwnB wr (w.heap.size + 1) (.slice a2 N c2) ys))
  case atStart => exact ⟨true, xs, rfl, HL, by simp [Hid], hbel, hk2, hOwn⟩
  case round =>
    clear hbel hk2 hOwn
    obtain ⟨bb, ys, rfl, hyl, hm, hb, hk, ho⟩ := hrel
    cases bb
    · go_wp2
      go_ret
      exact RVn.mk hb.out ⟨ys, hyl.out, ownBase ho.out (by omega)⟩
    · have hm1 : Hid (2 * miss ys + 1 ≤ gk) := Lib.hid (by simpa using hm.out)
      clear hm
      obtain ⟨M0, hM0⟩ : ∃ x, x = miss ys := ⟨_, rfl⟩
      have Hle : Hid (miss ys ≤ M0) := Lib.hid (by omega)
      rw [← hM0] at hm1
      have HM0 := Lib.hid hM0; clear hM0
      go_wp2_with fail
      go_loopw [6, 7] (fun c i wr => ∃ (k : Nat) (ch : Bool) (zs : List Bool), k ≤ D.moves.length ∧ c = .bool ch ∧ i = .int .i64 k ∧ Hid (zs.length = N) ∧ Hid (miss zs ≤ M0) ∧ Hid (ch = true → miss zs < M0) ∧ Hid (Below w.heap.size w wr) ∧ Hid (wr.heap[w.heap.size]? = some (.cells #[.int .i64 N, .slice am D.moves.length cm, .slice af D.firsts.length cf, .slice ae D.ends.length ce] 75 (0, 0))) ∧ Hid (OwnB wr (w.heap.size + 1) (.slice a2 N c2) zs)) (fun _ i _ => D.moves.length - (intOf i).toNat)
      case atStart => exact ⟨0, false, ys, by omega, rfl, rfl, hyl, Hle, nofun, hb, hk, ho⟩
      case round =>
        clear hb hk ho hyl Hle
        obtain ⟨k, ch, zs, hkl, rfl, rfl, hzl, hle, hlt, hb, hk, ho⟩ := hrel
        obtain ⟨c0, c1, c2', c3⟩ := blk4 hk.out
        by_cases hkk : k < D.moves.length
        · have hTr : Hid (Trips S wr (.slice am D.moves.length cm) D.moves) := Lib.hid (H0.out.stay (kpB hb.out))
          obtain ⟨bm, om, e1, m0, m1, m2⟩ := hTr.out.at hkk
          subst e1
          clear hTr
          have hmv := HD.out.mv _ (List.getElem_mem hkk)
          generalize D.moves[k] = mv at *
          obtain ⟨x, y, z⟩ := mv
          obtain ⟨⟨hx0, hx1⟩, ⟨hz0, hz1⟩⟩ := hmv
          obtain ⟨f, rfl⟩ := Int.eq_ofNat_of_zero_le hx0
          obtain ⟨t, rfl⟩ := Int.eq_ofNat_of_zero_le hz0
          dsimp only at m0 m1 m2 hx1 hz1
          have hfN : f < N := by omega
          have htN : t < N := by omega
          obtain ⟨g, cg, e2, hgb, cur, hcur⟩ := own_some ho.out (by rw [hzl.out]; omega)
          rw [hzl.out] at e2
          cases e2
          have hown := ho.out
          unfold OwnB at hown
          rw [hzl.out] at hown
          obtain ⟨cf1, ff1⟩ := ownCell hown (i := f) (by rw [List.length_map, hzl.out]; exact hfN)
          obtain ⟨ct1, ft1⟩ := ownCell hown (i := t) (by rw [List.length_map, hzl.out]; exact htN)
          have htl : t < zs.length := by rw [hzl.out]; exact htN
          rw [List.getElem_map] at cf1 ct1
          obtain ⟨bf, hbf⟩ : ∃ b, b = zs[f]'(by rw [hzl.out]; exact hfN) := ⟨_, rfl⟩
          obtain ⟨bt, hbt⟩ : ∃ b, b = zs[t] := ⟨_, rfl⟩
          rw [← hbf] at cf1
          rw [← hbt] at ct1
          have Hbt := Lib.hid hbt
          clear hbf hbt
          have hfI : (f : Int) < (N : Int) := by omega
          have htI : (t : Int) < (N : Int) := by omega
          have hbB : Hid (Below wr.heap.size wr (wr.alloc (.cells #[.int .i64 f, .int .i64 y, .int .i64 t] 80))) := (Below.refl _ _).alloc (Nat.le_refl _) _
          have hb2 := Lib.hid (hb.out.trans (hbB.out.mono hb.out.size))
          have hk2 := Lib.hid (blkBel hbB.out hk.out)
          have ho2 := Lib.hid (ho.out.stay hbB.out)
          have hownH := Lib.hid hown
          have hgw : g < wr.heap.size := (Array.getElem?_eq_some_iff.1 hcur).1
          have hgw2 : g ≠ wr.heap.size := by omega
          clear hown hcur cur
          by_cases hy : y = -1
          · subst hy
            cases bf
            · go_wp2
              go_roundw
              case rel => exact ⟨k + 1, ch, zs, by omega, rfl, by go_num, hzl, hle, hlt, hb2, hk2, ho2⟩
              case measure => simp [intOf]; omega
            · cases bt
              · have hms := Lib.hid (miss_set htl Hbt.out.symm)
                have hset := Lib.hid (ownSetIn hownH.out t (.bool true))
                have hbA : Below (wr.setCell ⟨g, t, none⟩ (.bool true)).heap.size (wr.setCell ⟨g, t, none⟩ (.bool true)) ((wr.setCell ⟨g, t, none⟩ (.bool true)).alloc (.cells #[.int .i64 f, .int .i64 (-1), .int .i64 t] 80)) := (Below.refl _ _).alloc (Nat.le_refl _) _
                have hb3' := hb.out.setCell (p := ⟨g, t, none⟩) (show w.heap.size ≤ g by omega) (.bool true)
                have hb3 := Lib.hid (hb3'.trans (hbA.mono hb3'.size))
                have hk3 := Lib.hid (blkBel hbA (blkSet (c := g) (o := t) (v := .bool true) hk.out (by omega)))
                have hz3 : Hid ((zs.set t true).length = N) := Lib.hid (by rw [List.length_set]; exact hzl.out)
                have ho3 : Hid (OwnB ((wr.setCell ⟨g, t, none⟩ (.bool true)).alloc (.cells #[.int .i64 f, .int .i64 (-1), .int .i64 t] 80)) (w.heap.size + 1) (.slice (some ⟨g, 0, none⟩) N c2) (zs.set t true)) := Lib.hid (OwnB.stay (by unfold OwnB; rw [hz3.out, List.map_set]; exact hset.out) hbA)
                clear hb2 hk2 ho2 hset hbA hb3' hownH
                go_wp2
                go_roundw
                case rel => exact ⟨k + 1, true, zs.set t true, by omega, rfl, by go_num, hz3, Lib.hid (by have := hms.out; have := hle.out; omega), fun _ => by have := hms.out; have := hle.out; omega, hb3, hk3, ho3⟩
                case measure => simp [intOf]; omega
              · go_wp2
                go_roundw
                case rel => exact ⟨k + 1, ch, zs, by omega, rfl, by go_num, hzl, hle, hlt, hb2, hk2, ho2⟩
                case measure => simp [intOf]; omega
          · have hy' : (y == -1) = false := by simpa using hy
            clear hy
            go_wp2
            go_roundw
            case rel => exact ⟨k + 1, ch, zs, by omega, rfl, by go_num, hzl, hle, hlt, hb2, hk2, ho2⟩
            case measure => simp [intOf]; omega
        · obtain rfl : k = D.moves.length := by omega
          go_wp2
          go_roundg (gk - 1)
          case measure => have := hm1.out; omega
          case rel => exact ⟨ch, zs, rfl, hzl, Lib.hid (by
            have := hm1.out
            have := hle.out
            cases ch
            · simp; omega
            · have := hlt.out rfl; simp; omega), hb, hk, ho⟩
set_option maxHeartbeats 2000000 in
theorem l8Step_c (vm vf ve v : Value) (D : NfaD) (N : Nat) (xs : List Bool) (c : Int) (w : World) (h : NfaR S w vm vf ve D) (hD : WN D N) (hx : Bools T w v xs) (hl : xs.length = N) :
    Calls Try.prog 206 #[.agg #[.int .i64 N, vm, vf, ve], v, .int .i64 c] w (RVn w (SetB w.heap.size N)) := by
  obtain ⟨am, cm, af, cf, ae, ce, rfl, rfl, rfl, hn1, hn2, hn3⟩ := h.shapes
  obtain ⟨W, hW⟩ : ∃ W, W = w.alloc (.cells #[.int .i64 N, .slice am D.moves.length cm, .slice af D.firsts.length cf, .slice ae D.ends.length ce] 75) := ⟨_, rfl⟩
  have Hb0 : Hid (Below w.heap.size w W) := by rw [hW]; exact (Below.refl _ _).alloc (Nat.le_refl _) _
  have K0 : Hid (W.heap[w.heap.size]? = some (.cells #[.int .i64 N, .slice am D.moves.length cm, .slice af D.firsts.length cf, .slice ae D.ends.length ce] 75 (0, 0))) := by rw [hW]; exact blkNew _ _ rfl
  have hWs : W.heap.size = w.heap.size + 1 := by rw [hW]; simp
  have H := Lib.hid h; have HX := Lib.hid hx; clear h hx
  obtain ⟨ax, cx, rfl, _⟩ := HX.out.shape
  have HWs := Lib.hid hWs; clear hWs
  have HW := Lib.hid hW; clear hW
  have hN9 := hD.le
  have hml9 := hD.ml
  have HL := Lib.hid hl
  rw [hl]
  rw [hl] at HX
  have HD := Lib.hid hD; clear hD hl
  obtain ⟨d0, _, _, _⟩ := blk4 K0.out
  rw [HW.out] at d0
  go_enter Try.func206, Try.ntmps206
  go_wp2_with (
    (at_make; rw [← HW.out]; refine makeRow ezBool (by decide) rfl (.tmp 11) (.tmp 11) rfl N _ rfl rfl (by omega) ?_)
    intro w1 hr1 hb1 hz1)
  rw [HWs.out] at hr1 ⊢
  have hbel : Hid (Below w.heap.size w w1) := Lib.hid (Hb0.out.trans (hb1.mono Hb0.out.size))
  have hk1 : Hid (w1.heap[w.heap.size]? = some (.cells #[.int .i64 N, .slice am D.moves.length cm, .slice af D.firsts.length cf, .slice ae D.ends.length ce] 75 (0, 0))) := Lib.hid (blkBel hb1 K0.out)
  clear hb1 hz1 K0 d0 HW
  go_loopw [8] (fun i wr => ∃ (k : Nat) (m : List Bool), k ≤ D.moves.length ∧ i = .int .i64 k ∧ Hid (m.length = N) ∧ Hid (Below w.heap.size w wr) ∧ Hid (wr.heap[w.heap.size]? = some (.cells #[.int .i64 N, .slice am D.moves.length cm, .slice af D.firsts.length cf, .slice ae D.ends.length ce] 75 (0, 0))) ∧ Hid (RowB wr (w.heap.size + 1) m)) (fun i _ => D.moves.length - (intOf i).toNat)
  case atStart => exact ⟨0, _, by omega, rfl, by simp [Hid], hbel, hk1, hr1⟩
  case round =>
    clear hr1 hbel hk1
    obtain ⟨k, m, hkl, rfl, hm, hb, hk, hr⟩ := hrel
    obtain ⟨c0, c1, c2', c3⟩ := blk4 hk.out
    by_cases hkk : k < D.moves.length
    · have hTr : Hid (Trips S wr (.slice am D.moves.length cm) D.moves) := Lib.hid (H.out.1.stay (kpB hb.out))
      obtain ⟨bm, om, e1, m0, m1, m2⟩ := hTr.out.at hkk
      subst e1
      clear hTr
      have hmv := HD.out.mv _ (List.getElem_mem hkk)
      generalize D.moves[k] = mv at *
      obtain ⟨x, y, z⟩ := mv
      obtain ⟨⟨hx0, hx1⟩, ⟨hz0, hz1⟩⟩ := hmv
      obtain ⟨f, rfl⟩ := Int.eq_ofNat_of_zero_le hx0
      obtain ⟨t, rfl⟩ := Int.eq_ofNat_of_zero_le hz0
      dsimp only at m0 m1 m2 hx1 hz1
      have hfN : f < N := by omega
      have htN : t < N := by omega
      have hxl : Hid (xs.length = N) := HL
      obtain ⟨bx, ox, e2, hcx⟩ := (Bools.stay HX.out (kpB hb.out)).at (k := f) (by rw [hxl.out]; exact hfN)
      cases e2
      have hbx : bx < wr.heap.size := World.block_lt_of_cell? _ _ hcx
      have hbx2 : bx ≠ wr.heap.size := by omega
      generalize xs[f]'(by rw [hxl.out]; exact hfN) = bf at *
      obtain ⟨u, hu⟩ : ∃ u, wr.cell? ⟨w.heap.size + 1, t, none⟩ = some u := ⟨_, hr.out.cell (i := t) (by rw [hm.out]; exact htN)⟩
      have hfz := hr.out.fz t
      have hrl := hr.out.lt
      have hfI : (f : Int) < (N : Int) := by omega
      have htI : (t : Int) < (N : Int) := by omega
      have hbB : Hid (Below wr.heap.size wr (wr.alloc (.cells #[.int .i64 f, .int .i64 y, .int .i64 t] 80))) := (Below.refl _ _).alloc (Nat.le_refl _) _
      have hb2 := Lib.hid (hb.out.trans (hbB.out.mono hb.out.size))
      have hk2 := Lib.hid (blkBel hbB.out hk.out)
      have hr2 := Lib.hid (hr.out.stay hbB.out)
      by_cases hy : y = c
      · subst hy
        cases bf
        · go_wp2
          go_roundw
          case rel => exact ⟨k + 1, m, by omega, by go_num, hm, hb2, hk2, hr2⟩
          case measure => simp [intOf]; omega
        · have hset := hr.out.set t true
          have hbA : Below (wr.setCell ⟨w.heap.size + 1, t, none⟩ (.bool true)).heap.size (wr.setCell ⟨w.heap.size + 1, t, none⟩ (.bool true)) ((wr.setCell ⟨w.heap.size + 1, t, none⟩ (.bool true)).alloc (.cells #[.int .i64 f, .int .i64 y, .int .i64 t] 80)) := (Below.refl _ _).alloc (Nat.le_refl _) _
          have hb3' := hb.out.setCell (p := ⟨w.heap.size + 1, t, none⟩) (show w.heap.size ≤ w.heap.size + 1 by omega) (.bool true)
          have hb3 := Lib.hid (hb3'.trans (hbA.mono hb3'.size))
          have hk3 := Lib.hid (blkBel hbA (blkSet (c := w.heap.size + 1) (o := t) (v := .bool true) hk.out (by omega)))
          have hr3 := Lib.hid (Row.stay hset hbA)
          have hm3 : Hid ((m.set t true).length = N) := Lib.hid (by rw [List.length_set]; exact hm.out)
          clear hb2 hk2 hr2 hset hbA hb3'
          go_wp2
          go_roundw
          case rel => exact ⟨k + 1, m.set t true, by omega, by go_num, hm3, hb3, hk3, hr3⟩
          case measure => simp [intOf]; omega
      · have hy' : (y == c) = false := by simpa using hy
        clear hy
        go_wp2
        go_roundw
        case rel => exact ⟨k + 1, m, by omega, by go_num, hm, hb2, hk2, hr2⟩
        case measure => simp [intOf]; omega
    · obtain rfl : k = D.moves.length := by omega
      have hO := rowOwn (base := w.heap.size) hr.out hm.out (by omega) (by omega)
      have hBo : Hid (Bools (w.heap.size ≤ ·) wr (.slice (some ⟨w.heap.size + 1, 0, none⟩) N N) m) := Lib.hid (OwnB.rd (by unfold OwnB; rw [hm.out]; exact hO))
      clear hO
      go_wp2_with fail
      refine (l8Close_c _ _ _ _ D N m wr (H.out.stay (kpB hb.out)) HD.out hBo.out hm.out).mono ?_
      rintro e w5 ⟨v5, rfl, hb5, hs5⟩
      obtain ⟨m5, hm5, ho5⟩ := hs5.out
      have hB := hb.out.trans (hb5.mono hb.out.size)
      have hO5 := Lib.hid (ownBase ho5 hb.out.size)
      clear hs5 ho5 c0 c1 c2' c3
      have Hm5 := Lib.hid hm5; clear hm5
      go_wp2
      go_ret
      exact RVn.mk hB ⟨m5, Hm5.out, hO5.out⟩
set_option maxHeartbeats 400000 in
theorem l9Same_c (v u : Value) (xs ys : List Bool) (w : World) (h : Bools S w v xs) (h' : Bools T w u ys) (hl : xs.length = ys.length) : Calls Try.prog 208 #[v, u] w (fun e w' => (∃ b : Bool, e = .returned (.bool b)) ∧ Below w.heap.size w w') := by
  obtain ⟨a, ca, rfl, hn⟩ := h.shape
  obtain ⟨b, cb, rfl, _⟩ := h'.shape
  have HV := Lib.hid h; clear h
  have HU := Lib.hid h'; clear h'
  have HL := Lib.hid hl
  rw [← hl]
  rw [← hl] at HU
  clear hl
  go_enter Try.func208, Try.ntmps208
  go_wp2
  go_loopw [5] (fun i wr => ∃ k : Nat, k ≤ xs.length ∧ i = .int .i64 k ∧ Below w.heap.size w wr) (fun i _ => xs.length - (intOf i).toNat)
  case atStart => exact ⟨0, by omega, rfl, Below.refl _ _⟩
  case round =>
    obtain ⟨k, hk, rfl, hb⟩ := hrel
    by_cases hlt : k < xs.length
    · obtain ⟨b1, o1, rfl, c1⟩ := (HV.out.stay (kpB hb)).at hlt
      obtain ⟨b2, o2, rfl, c2⟩ := (HU.out.stay (kpB hb)).at (k := k) (by rw [← HL.out]; exact hlt)
      have hkI : (k : Int) < (xs.length : Int) := by omega
      generalize xs[k] = x at *
      generalize ys[k]'(by rw [← HL.out]; exact hlt) = y at *
      rcases x with _ | _ <;> rcases y with _ | _
      · go_wp2_with fail
        go_quiet (fail)
        go_wp2
        go_roundw
        case rel => exact ⟨k + 1, by omega, by go_num, belDrewN hb _⟩
        case measure => simp [intOf]; omega
      · go_wp2_with fail
        go_quiet (fail)
        go_wp2
        go_ret
        exact ⟨⟨_, rfl⟩, belDrewN hb _⟩
      · go_wp2_with fail
        go_quiet (fail)
        go_wp2
        go_ret
        exact ⟨⟨_, rfl⟩, belDrewN hb _⟩
      · go_wp2_with fail
        go_quiet (fail)
        go_wp2
        go_roundw
        case rel => exact ⟨k + 1, by omega, by go_num, belDrewN hb _⟩
        case measure => simp [intOf]; omega
    · go_wp2
      go_ret
      exact ⟨⟨_, rfl⟩, hb⟩
end Go.Proofs.Ytcbhfopabgiiiaa
namespace Go.Proofs.Ytcbhfopabgiiiaa
open Go.RowKit
set_option maxRecDepth 100000
variable {S T : Nat → Prop}
theorem elBools : ElemT 166 24 1 24 := ElemT.of (z := .slice none 0 0) Try.underlying166 (by kernel_rfl) rfl (by decide)
/-- A list of sets. -/
structure LB (base N : Nat) (ls : List Value) (vL : Value) (w : World) : Prop where
  own : w.ownsRow base 24 1 vL ls.length ls
  rows : ∀ v ∈ ls, SetB base N v w
theorem SetB.stay {base N : Nat} {v : Value} {w w' : World} (h : SetB base N v w) (hb : Below w.heap.size w w') : SetB base N v w' := let ⟨m, h1, h2⟩ := h; ⟨m, h1, h2.stay hb⟩
theorem SetB.base {base base' N : Nat} {v : Value} {w : World} (h : SetB base N v w) (hb : base' ≤ base) : SetB base' N v w := let ⟨m, h1, h2⟩ := h; ⟨m, h1, ownBase h2 hb⟩
theorem SetB.grow {base base' N n sz : Nat} {v u : Value} {e : TypeId} {xs : List Value} {w w' : World} (h : SetB base N v w) (hu : w.ownsRow base' e sz u n xs) (hg : w.grownBy w' u.ownBlock) (hne : 4 ≠ e) : SetB base N v w' :=
  let ⟨m, h1, h2⟩ := h; ⟨m, h1, World.ownsRow.kept h2 hg (ownOr h2 hu (ownNe2 h2 hu hne))⟩
theorem LB.stay {base N : Nat} {ls : List Value} {vL : Value} {w w' : World} (h : LB base N ls vL w) (hb : Below w.heap.size w w') : LB base N ls vL w' := ⟨ownStay h.own hb, fun v hv => (h.rows v hv).stay hb⟩
theorem LB.grow {base base' N n sz : Nat} {ls : List Value} {vL u : Value} {e : TypeId} {xs : List Value} {w w' : World} (h : LB base N ls vL w) (hu : w.ownsRow base' e sz u n xs) (hg : w.grownBy w' u.ownBlock) (h1 : 4 ≠ e) (h2 : 24 ≠ e) : LB base N ls vL w' :=
  ⟨h.own.kept hg (ownOr h.own hu (ownNe2 h.own hu h2)), fun v hv => (h.rows v hv).grow hu hg h1⟩
theorem LB.add {base N : Nat} {ls : List Value} {vL vL' u : Value} {w w' : World} (h : LB base N ls vL w) (hu : SetB base N u w) (hg : w.grownBy w' vL.ownBlock) (ho : w'.ownsRow base 24 1 vL' (ls.length + 1) (ls ++ [u])) : LB base N (ls ++ [u]) vL' w' :=
  ⟨by simpa using ho, fun v hv => by
    rcases List.mem_append.1 hv with hv | hv
    · exact (h.rows v hv).grow h.own hg (by decide)
    · simp at hv; subst hv; exact hu.grow h.own hg (by decide)⟩
/-- A list of rows. -/
structure LR (base : Nat) (rs : List (Value × List Int)) (vN : Value) (w : World) : Prop where
  own : w.ownsRow base 39 1 vN rs.length (rs.map (·.1))
  rows : ∀ p ∈ rs, OwnI w base p.1 p.2
theorem LR.stay {base : Nat} {rs : List (Value × List Int)} {vN : Value} {w w' : World} (h : LR base rs vN w) (hb : Below w.heap.size w w') : LR base rs vN w' := ⟨ownStay h.own hb, fun p hp => (h.rows p hp).stay hb⟩
theorem LR.grow {base base' n sz : Nat} {rs : List (Value × List Int)} {vN u : Value} {e : TypeId} {xs : List Value} {w w' : World} (h : LR base rs vN w) (hu : w.ownsRow base' e sz u n xs) (hg : w.grownBy w' u.ownBlock) (h1 : 3 ≠ e) (h2 : 39 ≠ e) : LR base rs vN w' :=
  ⟨h.own.kept hg (ownOr h.own hu (ownNe2 h.own hu h2)), fun p hp => World.ownsRow.kept (h.rows p hp) hg (ownOr (h.rows p hp) hu (ownNe2 (h.rows p hp) hu h1))⟩
/-- Another list of ints, in newer memory, was written. -/
theorem LR.growI {base B n : Nat} {rs : List (Value × List Int)} {vN u : Value} {xs : List Value} {w w' : World} (h : LR base rs vN w) (hu : w.ownsRow B 3 1 u n xs) (hg : w.grownBy w' u.ownBlock) (hlt : ∀ p ∈ rs, ∀ b, p.1.ownBlock = some b → b < B) : LR base rs vN w' :=
  ⟨h.own.kept hg (ownOr h.own hu (ownNe2 h.own hu (by decide))), fun p hp => World.ownsRow.kept (h.rows p hp) hg (ownOr (h.rows p hp) hu (fun b hb hb' => by
    have h1 := hlt p hp b hb
    have h2 := (World.ownsRow.lt hu b hb').1
    omega))⟩
theorem LR.add {base : Nat} {rs : List (Value × List Int)} {vN vN' u : Value} {r : List Int} {w w' : World} (h : LR base rs vN w) (hu : OwnI w base u r) (hg : w.grownBy w' vN.ownBlock) (ho : w'.ownsRow base 39 1 vN' (rs.length + 1) (rs.map (·.1) ++ [u])) : LR base (rs ++ [(u, r)]) vN' w' :=
  ⟨by simpa using ho, fun p hp => by
    have h0 : OwnI w base p.1 p.2 := by
      rcases List.mem_append.1 hp with hp | hp
      · exact h.rows p hp
      · simp at hp; subst hp; exact hu
    exact World.ownsRow.kept h0 hg (ownOr h0 h.own (ownNe2 h0 h.own (by decide)))⟩
theorem LR.lt {base : Nat} {rs : List (Value × List Int)} {vN : Value} {w : World} (h : LR base rs vN w) : ∀ p ∈ rs, ∀ b, p.1.ownBlock = some b → b < w.heap.size := fun p hp b hb => (World.ownsRow.lt (h.rows p hp) b hb).2
theorem LR.read {base : Nat} {rs : List (Value × List Int)} {vN : Value} {w : World} (h : LR base rs vN w) : IntSS (base ≤ ·) w vN (rs.map (·.2)) := by
  refine ⟨rs.map (·.1), by rw [List.length_map]; exact (ownFl h.own).fl, by simp, fun i hi => ?_⟩
  have hi' : i < rs.length := by simpa using hi
  have := (h.rows _ (List.getElem_mem hi')).rd
  simpa [List.getD_eq_getElem?_getD, hi'] using this
theorem LB.at {base N g n cap : Nat} {ls : List Value} {w : World} (h : LB base N ls (.slice (some ⟨g, 0, none⟩) n cap) w) (hn : n = ls.length) {i : Nat} (hi : i < ls.length) : w.cell? ⟨g, i, none⟩ = some ls[i] ∧ SetB base N ls[i] w := by
  subst hn
  exact ⟨(ownCell h.own hi).1, h.rows _ (List.getElem_mem hi)⟩
set_option maxHeartbeats 800000 in
theorem l9Find_c {base : Nat} (vL u : Value) (ls : List Value) (N : Nat) (w : World) (h : LB base N ls vL w) (hu : SetB base N u w) (hl : ls.length ≤ 1000) : Calls Try.prog 207 #[vL, u] w (RIn w fun n => n = -1 ∨ (0 ≤ n ∧ n < ls.length)) := by
  obtain ⟨a, cap, rfl, hn⟩ := (ownFl h.own).shape
  obtain ⟨m, hm, ho⟩ := hu
  obtain ⟨au, cu, hsh, _⟩ := ho.shape
  rw [hm] at hsh
  subst hsh
  have H := Lib.hid h; clear h
  have HU := Lib.hid ho; clear ho
  have HM := Lib.hid hm; clear hm
  go_enter Try.func207, Try.ntmps207
  go_wp2
  go_loopw [5] (fun i wr => ∃ k : Nat, k ≤ ls.length ∧ i = .int .i64 k ∧ Below w.heap.size w wr) (fun i _ => ls.length - (intOf i).toNat)
  case atStart => exact ⟨0, by omega, rfl, Below.refl _ _⟩
  case round =>
    obtain ⟨k, hk, rfl, hb⟩ := hrel
    by_cases hlt : k < ls.length
    · obtain ⟨g, cg, e1, _, _, _⟩ := own_some H.out.own (by omega)
      cases e1
      obtain ⟨hc, hs⟩ := (H.out.stay hb).at rfl hlt
      obtain ⟨x, hx, ox⟩ := hs
      obtain ⟨ax, cx, hsh, _⟩ := ox.shape
      rw [hx] at hsh
      have Hx := Lib.hid hx; have OX := Lib.hid ox
      clear hx ox
      generalize ls[k] = vx at *
      subst hsh
      have hkI : (k : Int) < (ls.length : Int) := by omega
      go_wp2_with fail
      refine (l9Same_c _ _ x m wr OX.out.rd (HU.out.stay hb).rd (by rw [Hx.out, HM.out])).mono ?_
      rintro e w1 ⟨⟨bb, rfl⟩, hb1⟩
      have hB := hb.trans (hb1.mono hb.size)
      clear hc OX
      cases bb
      · go_wp2
        go_roundw
        case rel => exact ⟨k + 1, by omega, by go_num, hB⟩
        case measure => simp [intOf]; omega
      · go_wp2
        go_ret
        exact RIn.mk hB (.inr ⟨by omega, by omega⟩)
    · go_wp2
      go_ret
      exact RIn.mk hb (.inl rfl)
/-- The sets and the rows that are found. -/
def Sbs (N : Nat) (w : World) (e : Ending) (w' : World) : Prop := ∃ (ls : List Value) (rs : List (Value × List Int)) (vL vN : Value), e = .returned (.tuple #[vL, vN]) ∧ Below w.heap.size w w' ∧ Hid (LB w.heap.size N ls vL w') ∧ Hid (LR w.heap.size rs vN w') ∧
  Hid (1 ≤ ls.length ∧ ls.length ≤ 60) ∧ Hid (ls.length ≤ 40 → rs.length = ls.length) ∧ Hid (∀ p ∈ rs, p.2.length = 3 ∧ ∀ x ∈ p.2, 0 ≤ x ∧ x < ls.length)
set_option maxHeartbeats 4000000 in
theorem l9Subsets_c (vm vf ve : Value) (D : NfaD) (N : Nat) (w : World) (h : NfaR S w vm vf ve D) (hD : WN D N) :
    Calls Try.prog 203 #[.agg #[.int .i64 N, vm, vf, ve], .int .i64 40] w (Sbs N w) := by
  obtain ⟨am, cm, af, cf, ae, ce, rfl, rfl, rfl, hn1, hn2, hn3⟩ := h.shapes
  obtain ⟨W, hW⟩ : ∃ W, W = w.alloc (.cells #[.int .i64 N, .slice am D.moves.length cm, .slice af D.firsts.length cf, .slice ae D.ends.length ce] 75) := ⟨_, rfl⟩
  have Hb0 : Hid (Below w.heap.size w W) := by rw [hW]; exact (Below.refl _ _).alloc (Nat.le_refl _) _
  have K0 : Hid (W.heap[w.heap.size]? = some (.cells #[.int .i64 N, .slice am D.moves.length cm, .slice af D.firsts.length cf, .slice ae D.ends.length ce] 75 (0, 0))) := by rw [hW]; exact blkNew _ _ rfl
  have H := Lib.hid h; clear h
  have HW := Lib.hid hW; clear hW
  have HD := Lib.hid hD; clear hD
  obtain ⟨d0, d1, d2, d3⟩ := blk4 K0.out
  have dl := (Array.getElem?_eq_some_iff.1 K0.out).1
  have HK : Hid (∀ w', Below W.heap.size W w' → w'.cell? ⟨w.heap.size, 0, none⟩ = some (.int .i64 N) ∧ w'.cell? ⟨w.heap.size, 1, none⟩ = some (.slice am D.moves.length cm) ∧ w'.cell? ⟨w.heap.size, 2, none⟩ = some (.slice af D.firsts.length cf) ∧ w'.cell? ⟨w.heap.size, 3, none⟩ = some (.slice ae D.ends.length ce)) := fun w' hb => blk4 (blkBel hb K0.out)
  go_enter Try.func203, Try.ntmps203
  go_wp2_with fail
  rw [← HW.out]
  have hbs : Hid (Below W.heap.size W W.drew) := (Below.refl _ _).drew
  go_region_held3 (fun w' => w'.cell? ⟨w.heap.size, 0, none⟩ = some (.int .i64 N) ∧ w'.cell? ⟨w.heap.size, 1, none⟩ = some (.slice am D.moves.length cm) ∧ w'.cell? ⟨w.heap.size, 2, none⟩ = some (.slice af D.firsts.length cf) ∧ w'.cell? ⟨w.heap.size, 3, none⟩ = some (.slice ae D.ends.length ce))
    (first | exact HK.out _ hbs.out | exact HK.out _ hb10.out | exact HK.out _ hb11.out | exact HK.out _ (hb11.out.alloc hb11.out.size _))
    (first | (go_at_call 205; refine (l8Flags_c _ D.firsts N _ (H.out.2.1.stay (kpB (Hb0.out.trans (hbs.out.mono Hb0.out.size)))) HD.out.fs HD.out.le).mono ?_; rintro e v10 ⟨v1, rfl, hb, hs1⟩; have hb10 := Lib.hid (hbs.out.trans (hb.mono hbs.out.size)); clear hb; obtain ⟨m1, hm1, ho1⟩ := hs1.out; have Hm1 := Lib.hid hm1; have Ho1 := Lib.hid ho1; clear hm1 ho1 hs1; obtain ⟨a1, n1, c1, rfl⟩ : ∃ a n c, v1 = .slice a n c := (let ⟨a, c, e, _⟩ := Ho1.out.shape; ⟨a, _, c, e⟩)) | (go_at_call 204; refine (l8Close_c _ _ _ _ D N m1 _ (H.out.stay (kpB (Hb0.out.trans (hb10.out.mono Hb0.out.size)))) HD.out Ho1.out.rd Hm1.out).mono ?_; rintro e v11 ⟨v2, rfl, hb, hs2⟩; have hb11 := Lib.hid (hb10.out.trans (hb.mono hb10.out.size)); clear hb; have Hs2 := Lib.hid (hs2.out.base (Nat.le_trans hbs.out.size (by have := hb10.out.size; exact this))); clear hs2; obtain ⟨a2, n2, c2, rfl⟩ : ∃ a n c, v2 = .slice a n c := (let ⟨m, hm, ho⟩ := Hs2.out; let ⟨a, c, e, _⟩ := ho.shape; ⟨a, _, c, e⟩)))
  obtain ⟨W3, hW3⟩ : ∃ x, x = (v11.alloc (.cells #[.slice a2 n2 c2] 24)).alloc (.cells #[] 39) := ⟨_, rfl⟩
  have hb3a : Below v11.heap.size v11 W3 := by rw [hW3]; exact ((Below.refl _ _).alloc (Nat.le_refl _) _).alloc (by simp) _
  have hb3 := hb11.out.trans (hb3a.mono hb11.out.size)
  have hB3 := Lib.hid (Hb0.out.trans (hb3.mono Hb0.out.size))
  have hK3 := Lib.hid (blkBel hb3 K0.out)
  have hws : w.heap.size ≤ v11.heap.size := Nat.le_trans Hb0.out.size hb11.out.size
  have hLB3 : Hid (LB w.heap.size N [.slice a2 n2 c2] (.slice (some ⟨v11.heap.size, 0, none⟩) 1 1) W3) := by
    have h1 : (v11.alloc (.cells #[.slice a2 n2 c2] 24)).ownsRow w.heap.size 24 1 (.slice (some ⟨v11.heap.size, 0, none⟩) 1 1) 1 [.slice a2 n2 c2] := ownLit [.slice a2 n2 c2] hws (by omega) rfl
    refine ⟨by rw [hW3]; exact ownStay h1 ((Below.refl _ _).alloc (Nat.le_refl _) _), fun v hv => ?_⟩
    simp at hv; subst hv
    exact (Hs2.out.base Hb0.out.size).stay hb3a
  have hLR3 : Hid (LR w.heap.size [] (.slice (some ⟨v11.heap.size + 1, 0, none⟩) 0 0) W3) := by
    have h1 : W3.ownsRow w.heap.size 39 1 (.slice (some ⟨(v11.alloc (.cells #[.slice a2 n2 c2] 24)).heap.size, 0, none⟩) 0 0) 0 [] := by rw [hW3]; exact ownLit (n := 0) [] (by simp; omega) (by omega) rfl
    rw [World.size_alloc] at h1
    exact ⟨h1, nofun⟩
  have HW3 := Lib.hid hW3
  clear hW3 hb3a hb3 hws Hs2 Ho1 hb10 hbs d0 d1 d2 d3 HK
  go_wp2_with fail
  rw [← HW3.out]
  clear HW3 hb11
  go_loopw [6, 7, 8] (fun vL vN i wr => ∃ (ls : List Value) (rs : List (Value × List Int)), i = .int .i64 rs.length ∧ rs.length ≤ ls.length ∧ 1 ≤ ls.length ∧ ls.length ≤ 43 ∧ Hid (LB w.heap.size N ls vL wr) ∧ Hid (LR w.heap.size rs vN wr) ∧
      Hid (∀ p ∈ rs, p.2.length = 3 ∧ ∀ x ∈ p.2, 0 ≤ x ∧ x < ls.length) ∧ Hid (Below w.heap.size w wr) ∧ Hid (wr.heap[w.heap.size]? = some (.cells #[.int .i64 N, .slice am D.moves.length cm, .slice af D.firsts.length cf, .slice ae D.ends.length ce] 75 (0, 0)))) (fun _ _ i _ => 100 - (intOf i).toNat)
  case atStart => exact ⟨_, [], rfl, by simp, by simp, by simp, hLB3, hLR3, nofun, hB3, hK3⟩
  case round =>
    clear hLB3 hLR3 hB3 hK3
    obtain ⟨ls, rs, rfl, hkl, hl1, hl43, hLB, hLR, hrs, hb, hK⟩ := hrel
    obtain ⟨g, cg, rfl, hgb, _, _⟩ := own_some hLB.out.own (by omega)
    obtain ⟨aN, cN, hvN, _⟩ := (ownFl hLR.out.own).shape
    subst hvN
    obtain ⟨k, hk⟩ : ∃ k, k = rs.length := ⟨_, rfl⟩
    obtain ⟨L, hL⟩ : ∃ k, k = ls.length := ⟨_, rfl⟩
    have Hk := Lib.hid hk; have HL := Lib.hid hL
    rw [← hk] at hkl hLR ⊢
    rw [← hL] at hkl hl1 hl43 hLB ⊢
    clear hk hL
    by_cases hgo : k < L ∧ L ≤ 40
    · obtain ⟨hklt, hl40⟩ := hgo
      have hk1 : (k : Int) < (L : Int) := by omega
      have hk2 : (L : Int) ≤ 40 := by omega
      obtain ⟨W4, hW4⟩ : ∃ x, x = wr.alloc (.cells #[] 3) := ⟨_, rfl⟩
      have hb4 : Below wr.heap.size wr W4 := by rw [hW4]; exact (Below.refl _ _).alloc (Nat.le_refl _) _
      have hO4 : Hid (OwnI W4 wr.heap.size (.slice (some ⟨wr.heap.size, 0, none⟩) 0 0) []) := by rw [hW4]; exact ownLit (n := 0) [] (Nat.le_refl _) (by omega) rfl
      have hbw := hb.out.size
      have hB4 := Lib.hid (hb.out.trans (hb4.mono hb.out.size))
      have hK4 := Lib.hid (blkBel hb4 hK.out)
      have hLB4 := Lib.hid (hLB.out.stay hb4)
      have hLR4 := Lib.hid (hLR.out.stay hb4)
      have Hlt := Lib.hid hLR.out.lt
      have hz4 : wr.heap.size ≤ W4.heap.size := hb4.size
      have HW4 := Lib.hid hW4; clear hW4 hb4
      go_wp2_with fail
      rw [← HW4.out]
      clear hLB hLR hb hK HW4
      obtain ⟨Bk, hBk⟩ : ∃ n, n = wr.heap.size := ⟨_, rfl⟩
      rw [← hBk] at hO4 hbw Hlt hz4 ⊢
      clear hBk
      go_loopw [6, 9, 10] (fun vL vR i wq => ∃ (c : Nat) (ls2 : List Value) (r : List Int), c ≤ 3 ∧ i = .int .i64 c ∧ L ≤ ls2.length ∧ ls2.length ≤ L + c ∧ Hid (r.length = c) ∧ Hid (∀ x ∈ r, 0 ≤ x ∧ x < ls2.length) ∧ Hid (LB w.heap.size N ls2 vL wq) ∧ Hid (LR w.heap.size rs (.slice aN k cN) wq) ∧
          Hid (OwnI wq Bk vR r) ∧ Hid (Below w.heap.size w wq) ∧ Bk ≤ wq.heap.size ∧ Hid (wq.heap[w.heap.size]? = some (.cells #[.int .i64 N, .slice am D.moves.length cm, .slice af D.firsts.length cf, .slice ae D.ends.length ce] 75 (0, 0)))) (fun _ _ i _ => 3 - (intOf i).toNat)
      case atStart => exact ⟨0, ls, [], by omega, rfl, by rw [← HL.out]; omega, by rw [← HL.out]; omega, rfl, nofun, hLB4, hLR4, hO4, hB4, hz4, hK4⟩
      case round =>
        clear hLB4 hLR4 hO4 hB4 hz4 hK4
        obtain ⟨c, ls2, r, hc, rfl, hLl, hL2, hrl, hre, hLB, hLR, hO, hb, hz, hK⟩ := hrel
        obtain ⟨g, cg, rfl, hgb, _, _⟩ := own_some hLB.out.own (by omega)
        obtain ⟨aR, cR, hvR, _⟩ := hO.out.shape
        rw [hrl.out] at hvR
        subst hvR
        obtain ⟨Q, hQ⟩ : ∃ k, k = ls2.length := ⟨_, rfl⟩
        have HQ := Lib.hid hQ
        rw [← hQ] at hLl hL2 hLB ⊢
        clear hQ
        obtain ⟨k0, k1, k2, k3⟩ := blk4 hK.out
        by_cases hlt : c < 3
        · have hkQ : k < ls2.length := by rw [← HQ.out]; omega
          obtain ⟨hcell, hset⟩ := hLB.out.at HQ.out hkQ
          obtain ⟨mx, hmx, omx⟩ := hset
          obtain ⟨ax, cx, hsh, _⟩ := omx.shape
          rw [hmx] at hsh
          have Hmx := Lib.hid hmx; have Omx := Lib.hid omx
          clear hmx omx
          generalize ls2[k] = vx at *
          subst hsh
          have hkI : (k : Int) < (Q : Int) := by omega
          have HK2 : Hid (∀ w', Below wr.heap.size wr w' → w'.cell? ⟨w.heap.size, 0, none⟩ = some (.int .i64 N) ∧ w'.cell? ⟨w.heap.size, 1, none⟩ = some (.slice am D.moves.length cm) ∧ w'.cell? ⟨w.heap.size, 2, none⟩ = some (.slice af D.firsts.length cf) ∧ w'.cell? ⟨w.heap.size, 3, none⟩ = some (.slice ae D.ends.length ce) ∧ w'.cell? ⟨g, k, none⟩ = some (.slice ax N cx)) := fun w' hb' => by
            obtain ⟨x0, x1, x2, x3⟩ := blk4 (blkBel hb' hK.out)
            exact ⟨x0, x1, x2, x3, kpB (S := fun _ => True) hb' _ _ trivial hcell⟩
          have hbs : Hid (Below wr.heap.size wr wr.drew) := (Below.refl _ _).drew
          go_wp2_with fail
          go_region_held3 (fun w' => w'.cell? ⟨w.heap.size, 0, none⟩ = some (.int .i64 N) ∧ w'.cell? ⟨w.heap.size, 1, none⟩ = some (.slice am D.moves.length cm) ∧ w'.cell? ⟨w.heap.size, 2, none⟩ = some (.slice af D.firsts.length cf) ∧ w'.cell? ⟨w.heap.size, 3, none⟩ = some (.slice ae D.ends.length ce) ∧ w'.cell? ⟨g, k, none⟩ = some (.slice ax N cx))
            (first | exact HK2.out _ hbs.out | exact HK2.out _ hb10.out)
            (first | (go_at_call 206; refine (l8Step_c _ _ _ _ D N mx _ _ (H.out.stay (kpB (hb.out.trans (hbs.out.mono hb.out.size)))) HD.out (Omx.out.stay hbs.out).rd Hmx.out).mono ?_; rintro e v10 ⟨v1, rfl, hb0, hs1⟩; have hb10 := Lib.hid (hbs.out.trans (hb0.mono hbs.out.size)); clear hb0; have Hs1 := Lib.hid (hs1.out.base (Nat.le_trans hb.out.size hbs.out.size)); clear hs1; obtain ⟨a1, c1, rfl⟩ : ∃ a c, v1 = .slice a N c := (let ⟨m, hm, ho⟩ := Hs1.out; let ⟨a, c, e, _⟩ := ho.shape; ⟨a, c, by rw [e, hm]⟩)))
          replace hLB := Lib.hid (hLB.out.stay hb10.out)
          replace hLR := Lib.hid (hLR.out.stay hb10.out)
          replace hO := Lib.hid (hO.out.stay hb10.out)
          replace hK := Lib.hid (blkBel hb10.out hK.out)
          replace hb := Lib.hid (hb.out.trans (hb10.out.mono hb.out.size))
          replace hz := Nat.le_trans hz hb10.out.size
          clear hb10 hbs HK2 hcell k0 k1 k2 k3 Omx
          go_wp2_with fail
          refine (l9Find_c _ _ ls2 N _ (by have := hLB.out; exact this) Hs1.out (by rw [← HQ.out]; omega)).mono ?_
          rintro e v12 ⟨n, rfl, hb12, hn⟩
          replace hLB := Lib.hid (hLB.out.stay hb12)
          replace hLR := Lib.hid (hLR.out.stay hb12)
          replace hO := Lib.hid (hO.out.stay hb12)
          replace hK := Lib.hid (blkBel hb12 hK.out)
          replace Hs1 := Lib.hid (Hs1.out.stay hb12)
          replace hb := Lib.hid (hb.out.trans (hb12.mono hb.out.size))
          replace hz := Nat.le_trans hz hb12.size
          clear hb12
          have hbs := hb.out.size
          have hrl9 : Hid (r.length ≤ 1000000000) := Lib.hid (by rw [hrl.out]; omega)
          rcases hn.out with rfl | ⟨hn0, hn1⟩
          · clear hn
            have hown : Hid (v12.ownsRow w.heap.size 24 1 (.slice (some ⟨g, 0, none⟩) Q cg) Q ls2) := Lib.hid (by have := hLB.out.own; rw [← HQ.out] at this; exact this)
            have hQ9 : Q ≤ 1000000000 := by omega
            go_wp2_with (first
              | (at_builtin; refine appOne elBools (by decide) rfl (.tmp 53) (.tmp 55) rfl w.heap.size _ Q ls2 [.slice a1 N c1] v12 rfl rfl hown.out rfl (by simp [Value.oneCell']) hQ9 hbs ?_
                 intro v13 w13 ho13 hg13' _
                 have hg13 := grownTrans (grownBel ((Below.refl v12.heap.size v12).alloc (Nat.le_refl _) _)) hg13'
                 have hO13 : Hid (OwnI w13 Bk (.slice aR c cR) r) := Lib.hid (World.ownsRow.kept hO.out hg13 (ownOr hO.out hown.out (ownNe2 hO.out hown.out (by decide))))
                 have hbs13 : Bk ≤ w13.heap.size := Nat.le_trans hz hg13.size)
              | (at_builtin; refine appInt rfl (.tmp 57) (.tmp 59) rfl Bk _ r _ w13 rfl rfl hO13.out hrl9.out hbs13 ?_; intro v14 w14 h14 hg14))
            have hLB13 : LB w.heap.size N (ls2 ++ [.slice a1 N c1]) v13 w13 := LB.add hLB.out Hs1.out hg13 (by rw [← HQ.out]; exact ho13)
            have hLR13 := hLR.out.grow hown.out hg13 (by decide) (by decide)
            have hK13 := blkGrow hg13 hK.out (fun e => ownNe hown.out hK.out (by decide) e.symm)
            have hb13 := hb.out.grown hg13 hbs (fun b hb' => (World.ownsRow.lt hown.out b hb').1)
            have hLB14 := Lib.hid (hLB13.grow hO13.out hg14 (by decide) (by decide))
            have hLR14 := Lib.hid (hLR13.growI hO13.out hg14 Hlt.out)
            have hK14 := Lib.hid (blkGrow hg14 hK13 (fun e => ownNe hO13.out hK13 (by decide) e.symm))
            have hb14 := Lib.hid (hb13.grown hg14 hb13.size (fun b hb' => Nat.le_trans hbw (World.ownsRow.lt hO13.out b hb').1))
            have hz14 := Nat.le_trans hbs13 hg14.size
            have hlen : Hid ((ls2 ++ [Value.slice a1 N c1]).length = Q + 1) := Lib.hid (by rw [List.length_append, ← HQ.out]; rfl)
            have hre2 : Hid (∀ x ∈ r ++ [(Q : Int)], 0 ≤ x ∧ x < (ls2 ++ [Value.slice a1 N c1]).length) := fun x hx => by
              rw [hlen.out]
              rcases List.mem_append.1 hx with hx | hx
              · have := hre.out x hx; rw [← HQ.out] at this; omega
              · simp at hx; subst hx; omega
            have hrl2 : Hid ((r ++ [(Q : Int)]).length = c + 1) := Lib.hid (by rw [List.length_append, hrl.out]; rfl)
            clear hLB hLR hO hK hb hz hg14 hLB13 hLR13 hK13 hb13
            go_roundw
            case rel => exact ⟨c + 1, _, _, by omega, by go_num, by rw [hlen.out]; omega, by rw [hlen.out]; omega, hrl2, hre2, hLB14, hLR14, h14, hb14, hz14, hK14⟩
            case measure => simp [intOf]; omega
          · rw [← HQ.out] at hn1
            clear hn
            have hre2 : Hid (∀ x ∈ r ++ [n], 0 ≤ x ∧ x < ls2.length) := fun x hx => by
              rcases List.mem_append.1 hx with hx | hx
              · exact hre.out x hx
              · simp at hx; subst hx; rw [← HQ.out]; exact ⟨hn0, hn1⟩
            have hrl2 : Hid ((r ++ [n]).length = c + 1) := Lib.hid (by rw [List.length_append, hrl.out]; rfl)
            go_wp2_with (at_builtin; refine appInt rfl (.tmp 57) (.tmp 59) rfl Bk _ r _ v12 rfl rfl hO.out hrl9.out hz ?_; intro v14 w14 h14 hg14)
            have hLB14 := Lib.hid (hLB.out.grow hO.out hg14 (by decide) (by decide))
            have hLR14 := Lib.hid (hLR.out.growI hO.out hg14 Hlt.out)
            have hK14 := Lib.hid (blkGrow hg14 hK.out (fun e => ownNe hO.out hK.out (by decide) e.symm))
            have hb14 := Lib.hid (hb.out.grown hg14 hb.out.size (fun b hb' => Nat.le_trans hbw (World.ownsRow.lt hO.out b hb').1))
            have hz14 := Nat.le_trans hz hg14.size
            rw [HQ.out] at hLl hL2
            clear hLB hLR hO hK hb hz hg14
            go_roundw
            case rel => exact ⟨c + 1, ls2, _, by omega, by go_num, hLl, by omega, hrl2, hre2, hLB14, hLR14, h14, hb14, hz14, hK14⟩
            case measure => simp [intOf]; omega
        · obtain rfl : c = 3 := by omega
          have hOw : Hid (OwnI wr w.heap.size (.slice aR 3 cR) r) := Lib.hid (ownBase hO.out hbw)
          have hownN : Hid (wr.ownsRow w.heap.size 39 1 (.slice aN k cN) k (rs.map (·.1))) := Lib.hid (by have := hLR.out.own; rw [← Hk.out] at this; exact this)
          have hk9 : k ≤ 1000000000 := by omega
          have hbs := hb.out.size
          go_wp2_with (at_builtin; refine appOne elInts (by decide) rfl (.tmp 61) (.tmp 63) rfl w.heap.size _ k _ [.slice aR 3 cR] wr rfl rfl hownN.out rfl (by simp [Value.oneCell']) hk9 hbs ?_; intro v13 w13 ho13 hg13' _)
          have hg13 := grownTrans (grownBel ((Below.refl wr.heap.size wr).alloc (Nat.le_refl _) _)) hg13'
          have hLR13 : Hid (LR w.heap.size (rs ++ [(.slice aR 3 cR, r)]) v13 w13) := Lib.hid (LR.add hLR.out hOw.out hg13 (by rw [← Hk.out]; exact ho13))
          have hLB13 := Lib.hid (hLB.out.grow hownN.out hg13 (by decide) (by decide))
          have hK13 := Lib.hid (blkGrow hg13 hK.out (fun e => ownNe hownN.out hK.out (by decide) e.symm))
          have hb13 := Lib.hid (hb.out.grown hg13 hbs (fun b hb' => (World.ownsRow.lt hownN.out b hb').1))
          have hlen : Hid ((rs ++ [(Value.slice aR 3 cR, r)]).length = k + 1) := Lib.hid (by rw [List.length_append, ← Hk.out]; rfl)
          have hrs2 : Hid (∀ p ∈ rs ++ [(Value.slice aR 3 cR, r)], p.2.length = 3 ∧ ∀ x ∈ p.2, 0 ≤ x ∧ x < ls2.length) := fun p hp => by
            rcases List.mem_append.1 hp with hp | hp
            · have := hrs.out p hp
              exact ⟨this.1, fun x hx => ⟨(this.2 x hx).1, by have := (this.2 x hx).2; rw [← HL.out] at this; rw [← HQ.out]; omega⟩⟩
            · simp at hp; subst hp; exact ⟨hrl.out, hre.out⟩
          rw [HQ.out] at hLl hL2
          clear hLB hLR hO hK hb hz hg13 hg13' ho13 hOw hownN
          go_roundw
          case rel => exact ⟨ls2, _, by rw [hlen.out]; go_num, by rw [hlen.out]; omega, by omega, by omega, hLB13, hLR13, hrs2, hb13, hK13⟩
          case measure => simp [intOf]; omega
    · have hpost : Hid (ls.length ≤ 40 → rs.length = ls.length) := fun h40 => by
        rw [← HL.out, ← Hk.out]
        rw [← HL.out] at h40
        omega
      have h60 : Hid (1 ≤ ls.length ∧ ls.length ≤ 60) := Lib.hid (by rw [← HL.out]; omega)
      rcases Nat.lt_or_ge k L with hlt | hge
      · have h40 : (40 : Int) < (L : Int) := by omega
        have hkI : (k : Int) < (L : Int) := by omega
        clear hgo
        go_wp2
        exact bodyPost_ret (results_tmp2 rfl _ _ _) rfl ⟨ls, rs, .slice (some ⟨g, 0, none⟩) L cg, .slice aN k cN, rfl, hb.out, hLB, hLR, h60, hpost, hrs⟩
      · clear hgo
        go_wp2
        exact bodyPost_ret (results_tmp2 rfl _ _ _) rfl ⟨ls, rs, .slice (some ⟨g, 0, none⟩) L cg, .slice aN k cN, rfl, hb.out, hLB, hLR, h60, hpost, hrs⟩
end Go.Proofs.Ytcbhfopabgiiiaa
namespace Go.Proofs.Ytcbhfopabgiiiaa
open Go.RowKit
set_option maxRecDepth 100000
variable {S T : Nat → Prop}
/-- The call answers an automaton, or none and false. -/
def RDw (w : World) (e : Ending) (w' : World) : Prop := ∃ (D : DfaD) (v1 v2 : Value) (b : Bool), e = .returned (.tuple #[.agg #[v1, v2], .bool b]) ∧ Below w.heap.size w w' ∧ Hid ((b = true ∧ okD D) ∨ (b = false ∧ D = ([], []))) ∧ Hid (DfaR (w.heap.size ≤ ·) w' v1 v2 D)
theorem dfaNone (w : World) : DfaR S w (.slice none 0 0) (.slice none 0 0) ([], []) := ⟨⟨[], Fl.nil _, rfl, fun i hi => absurd hi (Nat.not_lt_zero _)⟩, Fl.nil _⟩
theorem RDw.no {w w' : World} (hb : Below w.heap.size w w') : RDw w (.returned (.tuple #[.agg #[.slice none 0 0, .slice none 0 0], .bool false])) w' := ⟨([], []), _, _, _, rfl, hb, Lib.hid (.inr ⟨rfl, rfl⟩), dfaNone _⟩
set_option maxHeartbeats 4000000 in
theorem l9Dfa_c (vm vf ve : Value) (D : NfaD) (N : Nat) (w : World) (h : NfaR S w vm vf ve D) (hD : WN D N) :
    Calls Try.prog 201 #[.agg #[.int .i64 N, vm, vf, ve]] w (RDw w) := by
  obtain ⟨am, cm, af, cf, ae, ce, rfl, rfl, rfl, hn1, hn2, hn3⟩ := h.shapes
  obtain ⟨W, hW⟩ : ∃ W, W = (w.alloc (.cells #[.int .i64 N, .slice am D.moves.length cm, .slice af D.firsts.length cf, .slice ae D.ends.length ce] 75)).alloc (.cells #[.slice none 0 0, .slice none 0 0] 26) := ⟨_, rfl⟩
  have Hb0 : Hid (Below w.heap.size w W) := by rw [hW]; exact ((Below.refl _ _).alloc (Nat.le_refl _) _).alloc (by simp) _
  have K0 : Hid (W.heap[w.heap.size]? = some (.cells #[.int .i64 N, .slice am D.moves.length cm, .slice af D.firsts.length cf, .slice ae D.ends.length ce] 75 (0, 0))) := by rw [hW]; exact blkOld (blkNew _ _ rfl)
  have K2 : Hid (W.heap[w.heap.size + 1]? = some (.cells #[.slice none 0 0, .slice none 0 0] 26 (0, 0))) := by rw [hW]; exact blkNew _ _ (by simp)
  have hWs : Hid (W.heap.size = w.heap.size + 2) := by rw [hW]; simp [Hid]
  have H := Lib.hid h; clear h
  have HW := Lib.hid hW; clear hW
  have HD := Lib.hid hD; clear hD
  go_enter Try.func201, Try.ntmps201
  go_wp2_with fail
  rw [← HW.out]
  clear HW
  refine (l9Subsets_c _ _ _ D N W (H.out.stay (kpB Hb0.out)) HD.out).mono ?_
  rintro e W4 ⟨ls, rs, vL, vN, rfl, hb, hLB, hLR, hl, hpost, hrs⟩
  have Hb4 := Lib.hid (Hb0.out.trans (hb.mono Hb0.out.size))
  replace K0 := Lib.hid (blkBel hb K0.out)
  replace K2 := Lib.hid (blkBel hb K2.out)
  have hbase : Hid (w.heap.size + 2 ≤ W.heap.size) := Lib.hid (by rw [hWs.out]; exact Nat.le_refl _)
  clear hb Hb0
  obtain ⟨hl1, hl60⟩ := hl.out
  obtain ⟨g, cg, rfl, hgb, _, _⟩ := own_some hLB.out.own (by omega)
  obtain ⟨aN, cN, hvN, _⟩ := (ownFl hLR.out.own).shape
  subst hvN
  obtain ⟨L, hL⟩ : ∃ k, k = ls.length := ⟨_, rfl⟩
  have HL := Lib.hid hL
  rw [← hL] at hl1 hl60 hLB ⊢
  clear hL hl
  obtain ⟨d0, d1, d2, d3⟩ := blk2 K2.out
  rcases Nat.lt_or_ge 40 L with hbig | hle
  · go_wp2
    refine bodyPost_ret (v := .tuple #[.agg #[.slice none 0 0, .slice none 0 0], .bool false]) (by simp [results, Try.results201, go_sem, d0, d1, d2, d3]) rfl (RDw.no ?_)
    exact (Hb4.out.setCell (by show w.heap.size ≤ w.heap.size + 1; omega) _).setCell (by show w.heap.size ≤ w.heap.size + 1; omega) _
  have hLI : (L : Int) ≤ 40 := by omega
  have hrl : rs.length = L := by have := hpost.out (by rw [← HL.out]; exact hle); rw [this, ← HL.out]
  rw [hrl] at hLR ⊢
  have Hrl := Lib.hid hrl; clear hrl hpost
  obtain ⟨W6, hW6⟩ : ∃ x, x = W4.alloc (.cells #[.slice aN L cN, .slice none 0 0] 26) := ⟨_, rfl⟩
  have hb6 : Hid (Below W4.heap.size W4 W6) := by rw [hW6]; exact (Below.refl _ _).alloc (Nat.le_refl _) _
  have hk6 : Hid (W6.heap[W4.heap.size]? = some (.cells #[.slice aN L cN, .slice none 0 0] 26 (0, 0))) := by rw [hW6]; exact blkNew _ _ rfl
  have hz6 : W4.heap.size + 1 ≤ W6.heap.size := by rw [hW6]; simp
  have HW6 := Lib.hid hW6; clear hW6
  obtain ⟨B6, hB6⟩ : ∃ b, b = W4.heap.size := ⟨_, rfl⟩
  have HB6 := Lib.hid hB6
  have hw4 := Hb4.out.size
  have k2l := (Array.getElem?_eq_some_iff.1 K2.out).1
  clear d0 d1 d2 d3
  go_wp2_with fail
  rw [← HW6.out]
  rw [← hB6] at hk6 hz6 hw4 k2l hb6 ⊢
  clear HW6 hB6
  go_loopw [7] (fun i wr => ∃ (k : Nat) (es : List Bool) (vE : Value), k ≤ L ∧ i = .int .i64 k ∧ Hid (es.length = k) ∧ Hid (Below B6 W4 wr) ∧ Hid (wr.heap[B6]? = some (.cells #[.slice aN L cN, vE] 26 (0, 0))) ∧ Hid (OwnB wr (B6 + 1) vE es) ∧ B6 + 1 ≤ wr.heap.size) (fun i _ => L - (intOf i).toNat)
  case atStart => exact ⟨0, [], _, by omega, rfl, rfl, hb6, hk6, OwnB.nil _ _, hz6⟩
  case round =>
    clear hb6 hk6 hz6
    obtain ⟨k, es, vE, hk, rfl, hes, hb, hk6, hE, hz⟩ := hrel
    obtain ⟨aE, cE, hvE, _⟩ := hE.out.shape
    rw [hes.out] at hvE
    subst hvE
    by_cases hlt : k < L
    · have hlI : (k : Int) < (L : Int) := by omega
      go_wp2_with fail
      go_loopw [8, 9] (fun c j wr => ∃ (q : Nat) (bb : Bool), q ≤ D.ends.length ∧ c = .bool bb ∧ j = .int .i64 q ∧ Hid (Below B6 W4 wr) ∧ Hid (wr.heap[B6]? = some (.cells #[.slice aN L cN, .slice aE k cE] 26 (0, 0))) ∧ Hid (OwnB wr (B6 + 1) (.slice aE k cE) es) ∧ B6 + 1 ≤ wr.heap.size) (fun _ j _ => D.ends.length - (intOf j).toNat)
      case atStart => exact ⟨0, false, by omega, rfl, rfl, hb, hk6, hE, hz⟩
      case round =>
        clear hb hk6 hE hz
        obtain ⟨q, bb, hq, rfl, rfl, hb, hk6, hE, hz⟩ := hrel
        have hbW : Hid (Below W4.heap.size W4 wr) := Lib.hid (by rw [← HB6.out]; exact hb.out)
        obtain ⟨c0, c1, c2, c3⟩ := blk4 (blkBel hbW.out K0.out)
        by_cases hqlt : q < D.ends.length
        · cases bb
          · have hIn : Hid (Ints S wr (.slice ae D.ends.length ce) D.ends) := Lib.hid (H.out.2.2.stay (kpB (Hb4.out.trans (hbW.out.mono Hb4.out.size))))
            obtain ⟨be, oe, e1, hce⟩ := hIn.out.at hqlt
            subst e1
            clear hIn
            have hen := HD.out.en _ (List.getElem_mem hqlt)
            generalize D.ends[q] = x at *
            obtain ⟨t, rfl⟩ := Int.eq_ofNat_of_zero_le hen.1
            have htN : t < N := by omega
            obtain ⟨hcell, hset⟩ := (hLB.out.stay hbW.out).at HL.out (by rw [← HL.out]; exact hlt)
            obtain ⟨mx, hmx, omx⟩ := hset
            obtain ⟨ax, cx, hsh, _⟩ := omx.shape
            rw [hmx] at hsh
            have Hmx := Lib.hid hmx
            generalize ls[k]'(by rw [← HL.out]; exact hlt) = vx at *
            subst hsh
            obtain ⟨bx, ox, e2, hcx⟩ := omx.rd.at (k := t) (by rw [hmx]; exact htN)
            cases e2
            generalize mx[t]'(by rw [hmx]; exact htN) = bt at *
            clear hmx omx hen
            have htI : (t : Int) < (N : Int) := by omega
            have hqI : (q : Int) < (D.ends.length : Int) := by omega
            go_wp2_with fail
            go_quiet (fail)
            have hb' : Hid (Below B6 W4 (wr.drewN nq)) := belDrewN hb.out _
            have hk6' : Hid ((wr.drewN nq).heap[B6]? = _) := hk6.out
            have hE' : Hid (OwnB (wr.drewN nq) (B6 + 1) (.slice aE k cE) es) := hE.out
            have hz' : B6 + 1 ≤ (wr.drewN nq).heap.size := hz
            clear hb hk6 hE hz hcell hce hcx c0 c1 c2 c3 hbW
            go_wp2
            go_roundw
            case rel => exact ⟨q + 1, bt, by omega, rfl, by go_num, hb', hk6', hE', hz'⟩
            case measure => simp [intOf]; omega
          · have hqI : (q : Int) < (D.ends.length : Int) := by omega
            go_wp2_with fail
            go_quiet (fail)
            have hb' : Hid (Below B6 W4 (wr.drewN nq)) := belDrewN hb.out _
            have hk6' : Hid ((wr.drewN nq).heap[B6]? = _) := hk6.out
            have hE' : Hid (OwnB (wr.drewN nq) (B6 + 1) (.slice aE k cE) es) := hE.out
            have hz' : B6 + 1 ≤ (wr.drewN nq).heap.size := hz
            clear hb hk6 hE hz c0 c1 c2 c3 hbW
            go_wp2
            go_roundw
            case rel => exact ⟨q + 1, true, by omega, rfl, by go_num, hb', hk6', hE', hz'⟩
            case measure => simp [intOf]; omega
        · obtain rfl : q = D.ends.length := by omega
          obtain ⟨e0, e1, e2, e3⟩ := blk2 hk6.out
          have hel9 : Hid (es.length ≤ 1000000000) := Lib.hid (by rw [hes.out]; omega)
          go_wp2_with (at_builtin; refine appBool rfl (.tmp 49) (.tmp 51) rfl (B6 + 1) _ es _ wr rfl rfl hE.out hel9.out hz ?_; intro v8 w8 h8 hg8; obtain ⟨a8, n8, c8, rfl⟩ : ∃ a n c, v8 = .slice a n c := (let ⟨a, c, e, _⟩ := h8.out.shape; ⟨a, _, c, e⟩); have hk8 := Lib.hid (blkGrow hg8 hk6.out (fun e => ownNe hE.out hk6.out (by decide) e.symm)); obtain ⟨f0, f1, f2, f3⟩ := blk2 hk8.out)
          have hb8 := Lib.hid ((hb.out.grown hg8 (by omega) (fun b hb' => by have := (World.ownsRow.lt hE.out b hb').1; omega)).setCell (p := ⟨B6, 1, none⟩) (Nat.le_refl _) (.slice a8 n8 c8))
          have hk9 : Hid ((w8.setCell ⟨B6, 1, none⟩ (.slice a8 n8 c8)).heap[B6]? = some (.cells #[.slice aN L cN, .slice a8 n8 c8] 26 (0, 0))) := Lib.hid (heap_set hk8.out 1 _)
          have hE9 : Hid (OwnB (w8.setCell ⟨B6, 1, none⟩ (.slice a8 n8 c8)) (B6 + 1) (.slice a8 n8 c8) (es ++ [bb])) := Lib.hid (ownSetNe h8.out (ownNe h8.out hk8.out (by decide)) _)
          have hz9 : B6 + 1 ≤ (w8.setCell ⟨B6, 1, none⟩ (.slice a8 n8 c8)).heap.size := by have := hg8.size; simp [World.setCell]; omega
          have hes9 : Hid ((es ++ [bb]).length = k + 1) := Lib.hid (by rw [List.length_append, hes.out]; rfl)
          clear hb hk6 hE hz h8 hg8 hk8 f0 f1 f2 f3 c0 c1 c2 c3 hbW e0 e1 e2 e3
          go_roundw
          case rel => exact ⟨k + 1, _, _, by omega, by go_num, hes9, hb8, hk9, hE9, hz9⟩
          case measure => simp [intOf]; omega
    · obtain rfl : k = L := by omega
      have hbW : Hid (Below W4.heap.size W4 wr) := Lib.hid (by rw [← HB6.out]; exact hb.out)
      obtain ⟨e0, e1, e2, e3⟩ := blk2 hk6.out
      obtain ⟨d0, d1, d2, d3⟩ := blk2 (blkBel hbW.out K2.out)
      have hNx : Hid (IntSS (W.heap.size ≤ ·) wr (.slice aN k cN) (rs.map (·.2))) := Lib.hid ((hLR.out.stay hbW.out).read)
      go_wp2
      refine bodyPost_ret (v := .tuple #[.agg #[.slice aN k cN, .slice aE k cE], .bool true]) (by simp [results, Try.results201, go_sem, d0, d1, d2, d3]) rfl ⟨(rs.map (·.2), es), _, _, true, rfl, ?_, Lib.hid (.inl ⟨rfl, ?_⟩), ?_⟩
      · exact ((Hb4.out.trans (hb.out.mono hw4)).setCell (by show w.heap.size ≤ w.heap.size + 1; omega) _).setCell (by show w.heap.size ≤ w.heap.size + 1; omega) _
      · refine ⟨by simp [Hrl.out]; omega, by simp [Hrl.out, hes.out], fun r hr => ?_⟩
        obtain ⟨p, hp, rfl⟩ := List.mem_map.1 hr
        obtain ⟨h3, hx⟩ := hrs.out p hp
        exact ⟨h3, fun x hx' => ⟨(hx x hx').1, by have := (hx x hx').2; rw [← HL.out] at this; simp [Hrl.out]; omega⟩⟩
      · have k1 : Kp (· ≠ w.heap.size + 1) wr ((wr.setCell ⟨w.heap.size + 1, 0, none⟩ (.slice aN k cN)).setCell ⟨w.heap.size + 1, 1, none⟩ (.slice aE k cE)) := kpSet.trans kpSet
        have hbs := hbase.out
        exact Lib.hid ⟨(hNx.out.mono (T := fun b => w.heap.size ≤ b ∧ b ≠ w.heap.size + 1) (fun b h => ⟨by omega, by omega⟩)).stay (k1.mono fun b h => h.2) |>.mono (fun b h => h.1),
          ((OwnB.rd hE.out).mono (T := fun b => w.heap.size ≤ b ∧ b ≠ w.heap.size + 1) (fun b h => ⟨by omega, by omega⟩)).stay (k1.mono fun b h => h.2) |>.mono (fun b h => h.1)⟩
end Go.Proofs.Ytcbhfopabgiiiaa
