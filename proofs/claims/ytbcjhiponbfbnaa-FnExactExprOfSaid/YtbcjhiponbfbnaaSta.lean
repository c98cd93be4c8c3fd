/- Where the operands of an expression begin. -/
import Derived.Deep.RegionHeld3
import Derived.Deep.DrawnRows
import Derived.Test.YtbcjhiponbfbnaaGD
import Derived.Test.YtbcjhiponbfbnaaGA
set_option linter.unusedSimpArgs false
set_option linter.unusedVariables false
set_option linter.unusedSectionVars false
namespace Go.Proofs.Ytbcjhiponbfbnaa
open Go.RowKit
set_option maxRecDepth 100000
variable {S : Nat → Prop}

/-- Where each expression begins, the first one first. -/
def begs : List Re → List Int
  | [] => []
  | _ :: s => begs s ++ [((flats s).length : Int)]
theorem begs_len (s : List Re) : (begs s).length = s.length := by induction s with
  | nil => rfl
  | cons t s ih => simp [begs, ih]
theorem len_flats (s : List Re) : s.length ≤ (flats s).length := by induction s with
  | nil => exact Nat.le_refl _
  | cons t s ih => have := t.flat_pos; simp [flats]; omega
def topAt : Option (List Re) → Int
  | some (_ :: s) => ((flats s).length : Int)
  | _ => 0
def outs (e : List (Int × Int)) (k : Nat) : Int := topAt (parse (e.take (k + 1)))
theorem needs_x (x y : Int) (w : World) : Calls Try.prog 97 #[.agg #[.int .i64 x, .int .i64 y]] w (fun e w' => e = .returned (.int .i64 (pNeeds x)) ∧ (w.alloc (.cells #[.int .i64 x, .int .i64 y] 67)) = w') := by
  rcases (by omega : x = 1 ∨ x = 2 ∨ x = 3 ∨ x = 7 ∨ x = 8 ∨ (x ≠ 1 ∧ x ≠ 2 ∧ x ≠ 3 ∧ x ≠ 7 ∧ x ≠ 8)) with rfl | rfl | rfl | rfl | rfl | ⟨h1, h2, h3, h7, h8⟩
  case inr.inr.inr.inr.inr =>
    have e1 : (x == 1) = false := by simpa using h1
    have e2 : (x == 2) = false := by simpa using h2
    have e3 : (x == 3) = false := by simpa using h3
    have e7 : (x == 7) = false := by simpa using h7
    have e8 : (x == 8) = false := by simpa using h8
    have H := Lib.hid (show (2 : Int) = pNeeds x by simp [pNeeds, h1, h2, h3, h7, h8])
    clear h1 h2 h3 h7 h8
    go_enter Try.func97, Try.ntmps97
    go_wp2
    go_ret
    exact ⟨by rw [← H.out]; rfl, rfl⟩
  all_goals
    go_enter Try.func97, Try.ntmps97
    go_wp2
    go_ret
    exact ⟨rfl, rfl⟩
theorem push_bad {o : Option (List Re)} {p : Int × Int} (h : ¬ pOk p.1 p.2) : push o p = none := by
  cases o with
  | none => rfl
  | some s => simp [push, h]
theorem push_few {s : List Re} {p : Int × Int} (h : ¬ pNeeds p.1 ≤ s.length) : push (some s) p = none := by
  have h1 := push_len s p
  rw [dstep_no (fun k => h k.2)] at h1
  cases h2 : push (some s) p with
  | none => rfl
  | some s' => rw [h2] at h1; cases h1
theorem push_none (e : List (Int × Int)) : e.foldl push none = none := by induction e with | nil => rfl | cons p t ih => exact ih
theorem noParse {e : List (Int × Int)} {k : Nat} (h : parse (e.take (k + 1)) = none) : parse e = none := by
  have : e = e.take (k + 1) ++ e.drop (k + 1) := (List.take_append_drop _ e).symm
  rw [this]
  unfold parse at h ⊢
  rw [List.foldl_append, h, push_none]
theorem push_ok {s : List Re} {p : Int × Int} (h : pOk p.1 p.2) (hl : pNeeds p.1 ≤ s.length) : ∃ s', push (some s) p = some s' := by
  have h1 := push_len s p
  rw [dstep_yes h hl] at h1
  cases h2 : push (some s) p with
  | some s' => exact ⟨s', rfl⟩
  | none => rw [h2] at h1; cases h1
theorem push_begs {s s' : List Re} {p : Int × Int} (h : push (some s) p = some s') : begs s' = (begs s).take (s.length - pNeeds p.1) ++ [topAt (some s')] ∧
    (pNeeds p.1 = 0 → topAt (some s') = ((flats s).length : Int)) ∧ (0 < pNeeds p.1 → (begs s)[s.length - pNeeds p.1]? = some (topAt (some s'))) ∧ s'.length = s.length - pNeeds p.1 + 1 := by
  obtain ⟨_, h | h | h⟩ := push_some h
  · obtain ⟨h0, rfl, _⟩ := h
    rw [h0]
    refine ⟨?_, fun _ => rfl, fun h => absurd h (Nat.lt_irrefl 0), by simp⟩
    rw [Nat.sub_zero, List.take_of_length_le (by rw [begs_len]; exact Nat.le_refl _)]; rfl
  · obtain ⟨h0, a, r, rfl, rfl, _⟩ := h
    rw [h0]
    refine ⟨?_, nofun, fun _ => ?_, by simp⟩
    · simp [begs, topAt, begs_len]
    · simp [begs, topAt, begs_len]
  · obtain ⟨h0, a, b, r, rfl, rfl, _⟩ := h
    rw [h0]
    refine ⟨?_, nofun, fun _ => ?_, by simp⟩
    · simp [begs, topAt, begs_len]
    · simp [begs, topAt, begs_len]
def Sta (e : List (Int × Int)) (b : Nat) (v : Value) (w : World) : Prop :=
  ∃ vo ok, v = .tuple #[vo, .bool ok] ∧ (ok = true ↔ ∃ t, parse e = some [t]) ∧ (∀ s, parse e = some s → Ints (fun k => b ≤ k) w vo ((List.range e.length).map (outs e)))
theorem staNo {e : List (Int × Int)} {b : Nat} {w : World} (h : parse e = none) : Sta e b (.tuple #[.slice none 0 0, .bool false]) w :=
  ⟨_, _, rfl, ⟨nofun, fun ⟨t, h'⟩ => by rw [h] at h'; cases h'⟩, fun s h' => by rw [h] at h'; cases h'⟩
set_option maxHeartbeats 1600000 in
theorem starts_c (v : Value) (e : List (Int × Int)) (w : World) (h : Pairs S w v e) (hn : e.length ≤ 10000) :
    Calls Try.prog 59 #[v] w (RVn w (Sta e w.heap.size)) := by
  obtain ⟨a, cap, rfl, _⟩ := h.shape
  have H := Lib.hid h; clear h
  go_enter Try.func59, Try.ntmps59
  go_wp2_with (at_make; refine makeFull elInt (by decide) rfl (.tmp 9) (.tmp 9) rfl e.length w rfl rfl (by omega) ?_; intro w1 cs ho hcl hb hlt _)
  have hF := Lib.hid (ownAt ho.out)
  clear ho
  go_loopw [5, 13] (fun st i wr => ∃ (k : Nat) (s : List Re), k ≤ e.length ∧ i = .int .i64 k ∧ Below w.heap.size w wr ∧ w.heap.size < wr.heap.size ∧ Hid (parse (e.take k) = some s) ∧
      Hid (OwnI wr (w.heap.size + 1) st (begs s)) ∧
      Hid (FlW (· = w.heap.size) wr (.slice (some ⟨w.heap.size, 0, none⟩) e.length e.length) e.length (mkd cs (fun j => .int .i64 (outs e j)) k))) (fun _ i _ => e.length - (intOf i).toNat)
  case atStart => exact ⟨0, [], by omega, rfl, hb, hlt, rfl, OwnI.nil _ _, by rw [mkd_zero]; exact hF⟩
  case round =>
    obtain ⟨k, s, hk, rfl, hb, hlt0, hp, hst, hO⟩ := hrel
    clear hF
    by_cases hlt : k < e.length
    · obtain ⟨b, off, rfl, c0, c1⟩ := (H.out.stay (kpB hb)).at hlt
      have ht := Lib.hid (take_parse e k hlt)
      obtain ⟨ast, cst, hv, _⟩ := hst.out.shape
      rw [begs_len] at hv
      subst hv
      have hB1 : Below wr.heap.size wr (wr.alloc (.cells #[.int .i64 e[k].1, .int .i64 e[k].2] 67)) := (Below.refl _ _).alloc (Nat.le_refl _) _
      by_cases hok : pOk e[k].1 e[k].2
      · have Hok := Lib.hid hok; clear hok
        generalize hq : pNeeds e[k].1 = q at *
        have Hq := Lib.hid hq; clear hq
        by_cases hle : q ≤ s.length
        · obtain ⟨s', hs'⟩ := push_ok (s := s) (p := e[k]) Hok.out (by rw [Hq.out]; exact hle)
          obtain ⟨b1, b2, b3, b4⟩ := push_begs hs'
          rw [Hq.out] at b1 b2 b3 b4
          have hkl : (flats s).length = k := by rw [parse_flats hp.out, List.length_take]; omega
          have hout : outs e k = topAt (some s') := by unfold outs; rw [ht.out, hp.out, hs']
          have hp' : Hid (parse (e.take (k + 1)) = some s') := Lib.hid (by rw [ht.out, hp.out, hs'])
          rw [hkl] at b2
          have hsk : s.length ≤ k := by rw [← hkl]; exact len_flats s
          have B1 := Lib.hid b1
          have B4 := Lib.hid b4
          have Hout := Lib.hid hout
          clear b1 b4 hs' hkl
          go_wp2_with fail
          refine (PartValid_c e[k].1 e[k].2 _).mono ?_
          rintro x w1 ⟨m, rfl, hb1, hm⟩
          cases m
          · exact (hbF hm Hok.out).elim
          clear hm
          have k0 := blkBel hb1 (blkNew wr (.cells #[.int .i64 e[k].1, .int .i64 e[k].2] 67) rfl)
          obtain ⟨d0, d1, _, _⟩ := blk2 k0
          have hB2 := (hb.trans (hB1.mono hb.size)).trans (hb1.mono (by have := hb.size; have := hB1.size; omega))
          have hO1 := Lib.hid ((hO.out.stay (ksB hB1)).stay (ksB hb1))
          have hst1 := Lib.hid ((hst.out.stay hB1).stay hb1)
          clear hO hst
          go_wp2_with fail
          refine (needs_c e[k].1 e[k].2 _).mono ?_
          rintro x w2 ⟨m, rfl, hb2, hm⟩
          obtain ⟨hm1, hm2, hm3⟩ := hm.out
          rw [Hq.out] at hm1
          subst hm1
          have k1 := blkBel hb2 k0
          obtain ⟨d20, d21, _, _⟩ := blk2 k1
          have hB3 := hB2.trans (hb2.mono hB2.size)
          have hO2 := Lib.hid (hO1.out.stay (ksB hb2))
          have hst2 := Lib.hid (hst1.out.stay hb2)
          clear hm hO1 hst1 d0 d1 k0
          have hlen := mkd_length cs (fun j => .int .i64 (outs e j)) k (by rw [hcl.out]; omega)
          obtain ⟨b', off', e0, _, f0, f1⟩ := hO2.out.at (i := k) (by rw [hlen, hcl.out]; omega)
          cases e0
          obtain ⟨u0, g0⟩ : ∃ u, w2.cell? ⟨w.heap.size, 0 + k, none⟩ = some u := ⟨_, f0⟩
          have g1 := f1 k
          rw [Nat.zero_add] at g0
          have hO3 := Lib.hid (hO2.out.set k (.int .i64 k) (by rw [hlen, hcl.out]; omega))
          rw [Nat.zero_add] at hO3
          have hB4 : Below w.heap.size w (w2.setCell ⟨w.heap.size, k, none⟩ (.int .i64 k)) := hB3.setCell (Nat.le_refl _) _
          have hst3 : Hid (OwnI (w2.setCell ⟨w.heap.size, k, none⟩ (.int .i64 k)) (w.heap.size + 1) (.slice ast s.length cst) (begs s)) := Lib.hid (ownSet (o := k) hst2.out (Nat.lt_succ_self _) (.int .i64 k))
          have k2 : (w2.setCell ⟨w.heap.size, k, none⟩ (.int .i64 k)).heap[wr.heap.size]? = _ := blkSet k1 (by omega)
          obtain ⟨d30, d31, _, _⟩ := blk2 k2
          clear f0 f1 hO2 hst2 d20 d21
          go_wp2_with fail
          refine (needs_c e[k].1 e[k].2 _).mono ?_
          rintro x w4 ⟨m, rfl, hb4, hm⟩
          obtain ⟨hm1, _, _⟩ := hm.out
          rw [Hq.out] at hm1
          subst hm1
          have k3 := blkBel hb4 k2
          obtain ⟨d40, d41, d4f0, d4f1⟩ := blk2 k3
          have hB5 := hB4.trans (hb4.mono hB4.size)
          have hO4 := Lib.hid (hO3.out.stay (ksB hb4))
          have hst4 := Lib.hid (hst3.out.stay hb4)
          have hbs4 : w.heap.size + 1 ≤ w4.heap.size := by have := hb4.size; have := hB3.size; have := (Array.getElem?_eq_some_iff.1 k3).1; omega
          have hlk := (Array.getElem?_eq_some_iff.1 k3).1
          clear hm hO3 hst3 k2 d30 d31 k3 k1 hb4 g0 g1 hb2 hb1 hB1 hB2 hB3 hB4
          by_cases hq0 : q = 0
          · subst hq0
            obtain ⟨b', off', e0, _, f0, _⟩ := hO4.out.at (i := k) (by rw [List.length_set, hlen, hcl.out]; omega)
            cases e0
            simp only [List.getElem_set_self] at f0
            have hO5 : Hid (FlW (· = w.heap.size) w4 (.slice (some ⟨w.heap.size, 0, none⟩) e.length e.length) e.length (mkd cs (fun j => .int .i64 (outs e j)) (k + 1))) := Lib.hid (by
              rw [← mkd_set cs _ k (by rw [hcl.out]; omega)]
              have : outs e k = (k : Int) := by rw [Hout.out, b2 rfl]
              simp only [this]; exact hO4.out)
            have hbe : begs s' = begs s ++ [(k : Int)] := by
              rw [B1.out, b2 rfl, Nat.sub_zero, List.take_of_length_le (by rw [begs_len]; omega)]
            have Hbe := Lib.hid hbe; clear hbe
            have hle100 : s.length ≤ 10000 := by omega
            rw [Nat.zero_add] at f0
            clear hO4 b2 b3 hle
            go_wp2_with (at_builtin; refine appInt rfl (.tmp 53) (.tmp 58) rfl (w.heap.size + 1) _ (begs s) _ _ rfl rfl hst4.out (by rw [begs_len s]; omega) hbs4 ?_; intro v5 w5 h5 hg5)
            have hO6 := Lib.hid (hO5.out.stay ((ksG hg5).mono (fun b h => by subst h; intro h; have := World.ownsRow.lt hst4.out _ h.symm; omega)))
            have hB6 := hB5.grown hg5 (by omega) (fun k hk => by have := (World.ownsRow.lt hst4.out k hk).1; omega)
            have h6 : w.heap.size < w5.heap.size := by have := hg5.size; omega
            clear hO5 hg5 hst4
            go_roundw
            case rel => exact ⟨k + 1, s', by omega, by go_num, hB6, h6, hp', by rw [Hbe.out]; exact h5, hO6⟩
            case measure => simp [intOf]; omega
          · obtain ⟨c, hc⟩ : ∃ c, s.length = c + q := ⟨s.length - q, by omega⟩
            have hwr : IntKind.i64.wrap ((s.length : Int) - (q : Int)) = (c : Int) := by
              rw [show (s.length : Int) - (q : Int) = (c : Int) by omega]; exact IntWalk.i64_in _ (by omega)
            have b3' := b3 (by omega)
            rw [show s.length - q = c by omega] at b3'
            obtain ⟨bs, os, hast, hcst⟩ := hst4.out.rd.at (k := c) (by rw [begs_len]; omega)
            subst hast
            have hcap := hst4.out.rd.cap
            have ht0 : (begs s)[c]'(by rw [begs_len]; omega) = topAt (some s') := by
              rw [List.getElem?_eq_getElem (by rw [begs_len]; omega)] at b3'; simpa using b3'
            rw [ht0] at hcst
            generalize topAt (some s') = tt at *
            obtain ⟨b', off', e0, _, f0, f1⟩ := hO4.out.at (i := k) (by rw [List.length_set, hlen, hcl.out]; omega)
            cases e0
            simp only [List.getElem_set_self] at f0
            rw [Nat.zero_add] at f0
            have f1' := f1 k
            have hc0 : (0 : Int) ≤ (c : Int) := Int.natCast_nonneg _
            have hc1 : (c : Int) < (s.length : Int) := by omega
            have hc2 : (c : Int) ≤ (cst : Int) := by omega
            have hcne : ¬ cst = 0 := by omega
            have hk0 : (0 : Int) ≤ (k : Int) := Int.natCast_nonneg _
            have hk1 : (k : Int) < (e.length : Int) := by omega
            clear ht0 b2 b3 b3' hout
            have hF1 : ∀ X, (w4.alloc X).drew.frozen? ⟨w.heap.size, k, none⟩ = false := fun X => (World.frozen?_alloc_old (w := w4) (a := ⟨w.heap.size, k, none⟩) (o := X) (show w.heap.size ≠ w4.heap.size by omega)).trans f1'
            have hF2 : ∀ X Y, ((w4.alloc X).alloc Y).drew.frozen? ⟨w.heap.size, k, none⟩ = false := fun X Y => (World.frozen?_alloc_old (w := w4.alloc X) (a := ⟨w.heap.size, k, none⟩) (o := Y) (show w.heap.size ≠ (w4.alloc X).heap.size by simp; omega)).trans (hF1 X)
            have z4 : ¬ w.heap.size = bs := by have := (World.ownsRow.lt hst4.out bs rfl).1; omega
            have HG : Hid (∀ X Y, (((w4.setCell ⟨w.heap.size, k, none⟩ (.int .i64 tt)).alloc X).alloc Y).drew.cell? ⟨wr.heap.size, 0, none⟩ = some (.int .i64 e[k].1) ∧ (((w4.setCell ⟨w.heap.size, k, none⟩ (.int .i64 tt)).alloc X).alloc Y).drew.cell? ⟨wr.heap.size, 1, none⟩ = some (.int .i64 e[k].2) ∧
                (((w4.setCell ⟨w.heap.size, k, none⟩ (.int .i64 tt)).alloc X).alloc Y).drew.cell? ⟨bs, os + c, none⟩ = some (.int .i64 tt) ∧ ((((w4.setCell ⟨w.heap.size, k, none⟩ (.int .i64 tt)).alloc X).alloc Y).drew.cell? ⟨w.heap.size, k, none⟩).isSome = true ∧ (((w4.setCell ⟨w.heap.size, k, none⟩ (.int .i64 tt)).alloc X).alloc Y).drew.frozen? ⟨w.heap.size, k, none⟩ = false) := fun X Y => by
              have kp : ∀ p v, (w4.setCell ⟨w.heap.size, k, none⟩ (.int .i64 tt)).cell? p = some v → (((w4.setCell ⟨w.heap.size, k, none⟩ (.int .i64 tt)).alloc X).alloc Y).drew.cell? p = some v := fun p v h => kpAlloc (S := fun _ => True) _ _ trivial (kpAlloc (S := fun _ => True) _ _ trivial h)
              refine ⟨kp _ _ ?_, kp _ _ ?_, kp _ _ ?_, ?_, ?_⟩
              · rw [World.cell?_setCell_far _ _ _ _ (show w.heap.size ≠ wr.heap.size by omega)]; exact d40
              · rw [World.cell?_setCell_far _ _ _ _ (show w.heap.size ≠ wr.heap.size by omega)]; exact d41
              · rw [World.cell?_setCell_far _ _ _ _ z4]; exact hcst
              · rw [kp _ _ (cell_setSame f0)]; rfl
              · have h1 : (w4.setCell ⟨w.heap.size, k, none⟩ (.int .i64 tt)).frozen? ⟨w.heap.size, k, none⟩ = false := by rw [World.frozen?_setCell]; exact f1'
                have hz : (w4.setCell ⟨w.heap.size, k, none⟩ (.int .i64 tt)).heap.size = w4.heap.size := by simp [World.setCell]
                exact (World.frozen?_alloc_old (w := (w4.setCell ⟨w.heap.size, k, none⟩ (.int .i64 tt)).alloc X) (a := ⟨w.heap.size, k, none⟩) (o := Y) (show w.heap.size ≠ _ by simp [hz]; omega)).trans ((World.frozen?_alloc_old (w := w4.setCell ⟨w.heap.size, k, none⟩ (.int .i64 tt)) (a := ⟨w.heap.size, k, none⟩) (o := X) (show w.heap.size ≠ _ by rw [hz]; omega)).trans h1)
            have z1 : w.heap.size < w4.heap.size := by omega
            have z2 : w.heap.size < w4.heap.size + 1 := by omega
            have Hc := Lib.hid hc; clear hc
            go_wp2_with fail
            go_region_held3 (fun w' => w'.cell? ⟨wr.heap.size, 0, none⟩ = some (.int .i64 e[k].1) ∧ w'.cell? ⟨wr.heap.size, 1, none⟩ = some (.int .i64 e[k].2) ∧ w'.cell? ⟨bs, os + c, none⟩ = some (.int .i64 tt) ∧ (w'.cell? ⟨w.heap.size, k, none⟩).isSome = true ∧ w'.frozen? ⟨w.heap.size, k, none⟩ = false)
              (first | exact HG.out _ _ | (refine ⟨?_, ?_, ?_, ?_, ?_⟩ <;> first | exact hF1 _ | exact hF2 _ _ | go_keep) | go_keep) (first | (go_at_call 97; refine (needs_x _ _ _).mono ?_; rintro e w' ⟨he, rfl⟩; rw [Hq.out] at he; subst he))
            have hlk4 : (mkd cs (fun j => .int .i64 (outs e j)) k).length = e.length := by rw [hlen, hcl.out]; omega
            have hO5 := Lib.hid (hO4.out.set k (.int .i64 tt) (by rw [List.length_set, hlk4]; omega))
            rw [Nat.zero_add, List.set_set] at hO5
            have hO6 : Hid (FlW (· = w.heap.size) (w4.setCell ⟨w.heap.size, k, none⟩ (.int .i64 tt)) (.slice (some ⟨w.heap.size, 0, none⟩) e.length e.length) e.length (mkd cs (fun j => .int .i64 (outs e j)) (k + 1))) := Lib.hid (by
              rw [← mkd_set cs _ k (by rw [hcl.out]; omega)]
              simp only [Hout.out]; exact hO5.out)
            have hst5 : Hid (OwnI (w4.setCell ⟨w.heap.size, k, none⟩ (.int .i64 tt)) (w.heap.size + 1) (.slice (some ⟨bs, os, none⟩) c cst) ((begs s).take c)) := Lib.hid (ownSet (o := k) (hst4.out.take (by rw [begs_len]) (by rw [begs_len]; omega)) (Nat.lt_succ_self _) _)
            have hB6 : Below w.heap.size w (w4.setCell ⟨w.heap.size, k, none⟩ (.int .i64 tt)) := hB5.setCell (Nat.le_refl _) _
            have f2 := cell_setSame (u := .int .i64 tt) f0
            obtain ⟨w5, hw5⟩ : ∃ x, x = (((w4.setCell ⟨w.heap.size, k, none⟩ (.int .i64 tt)).alloc (.cells #[.int .i64 e[k].1, .int .i64 e[k].2] 67)).alloc (.cells #[.int .i64 e[k].1, .int .i64 e[k].2] 67)).drew := ⟨_, rfl⟩
            rw [← hw5]
            have hbV : Below (w4.setCell ⟨w.heap.size, k, none⟩ (.int .i64 tt)).heap.size (w4.setCell ⟨w.heap.size, k, none⟩ (.int .i64 tt)) w5 := by rw [hw5]; exact (((Below.refl _ _).alloc (Nat.le_refl _) _).alloc (by simp) _).drew
            clear hw5
            have hz5 : (w4.setCell ⟨w.heap.size, k, none⟩ (.int .i64 tt)).heap.size = w4.heap.size := by simp [World.setCell]
            have hB7 := hB6.trans (hbV.mono hB6.size)
            have hO7 := Lib.hid (hO6.out.stay (ksB hbV))
            have hst7 := Lib.hid (hst5.out.stay hbV)
            have f3 : w5.cell? ⟨w.heap.size, k, none⟩ = some (.int .i64 tt) := kpB (S := fun _ => True) hbV _ _ trivial f2
            have hbs7 : w.heap.size + 1 ≤ w5.heap.size := by have := hbV.size; omega
            have hle100 : c ≤ 10000 := by have := Hc.out; omega
            have htl : Hid (((begs s).take c).length = c) := Lib.hid (by rw [List.length_take, begs_len]; have := Hc.out; omega)
            have hbe : Hid (begs s' = (begs s).take c ++ [tt]) := Lib.hid (by rw [B1.out]; congr 2; have := Hc.out; omega)
            clear hO5 hO6 hst5 hB6 f2 hbV hO4 hst4 f0 f1 f1' d40 d41 hcst HG hF1 hF2
            generalize (begs s).take c = L at *
            go_wp2_with (at_builtin; refine appInt rfl (.tmp 53) (.tmp 58) rfl (w.heap.size + 1) _ L _ _ rfl rfl (by have := hst7.out; exact this) (by rw [htl.out]; omega) hbs7 ?_; intro v8 w8 h8 hg8)
            have hO8 := Lib.hid (hO7.out.stay ((ksG hg8).mono (fun b h => by subst h; intro h; have := World.ownsRow.lt hst7.out _ h.symm; omega)))
            have hB8 := hB7.grown hg8 (by omega) (fun k hk => by have := (World.ownsRow.lt hst7.out k hk).1; omega)
            have h6 : w.heap.size < w8.heap.size := by have := hg8.size; omega
            clear hO7 hg8 hst7
            go_roundw
            case rel => exact ⟨k + 1, s', by omega, by go_num, hB8, h6, hp', by rw [hbe.out]; exact h8, hO8⟩
            case measure => simp [intOf]; omega
        · have hno := Lib.hid (noParse (k := k) (by rw [ht.out, hp.out, push_few (by rw [Hq.out]; exact hle)]))
          go_wp2_with fail
          refine (PartValid_c e[k].1 e[k].2 _).mono ?_
          rintro x w1 ⟨m, rfl, hb1, hm⟩
          cases m
          · exact (hbF hm Hok.out).elim
          clear hm
          have k0 := blkBel hb1 (blkNew wr (.cells #[.int .i64 e[k].1, .int .i64 e[k].2] 67) rfl)
          obtain ⟨d0, d1, _, _⟩ := blk2 k0
          have hB2 := (hb.trans (hB1.mono hb.size)).trans (hb1.mono (by have := hb.size; have := hB1.size; omega))
          clear k0
          go_wp2_with fail
          refine (needs_c e[k].1 e[k].2 _).mono ?_
          rintro x w2 ⟨m, rfl, hb2, hm⟩
          obtain ⟨hm1, hm2, hm3⟩ := hm.out
          rw [Hq.out] at hm1
          clear hm
          go_wp2
          exact bodyPost_ret (results_tmp2 rfl _ _ _) rfl (RVn.mk (hB2.trans (hb2.mono hB2.size)) (staNo hno.out))
      · have Hok := Lib.hid hok; clear hok
        go_wp2_with fail
        refine (PartValid_c e[k].1 e[k].2 _).mono ?_
        rintro x w1 ⟨m, rfl, hb1, hm⟩
        cases m
        · have hno := Lib.hid (noParse (k := k) (by rw [ht.out, hp.out, push_bad Hok.out]))
          go_wp2
          refine bodyPost_ret (results_tmp2 rfl _ _ _) rfl (RVn.mk ((hb.trans (hB1.mono hb.size)).trans (hb1.mono (by have := hb.size; have := hB1.size; omega))) (staNo hno.out))
        · exact (Hok.out (hbT hm)).elim
    · obtain rfl : k = e.length := by omega
      rw [List.take_length] at hp
      have hO' := Lib.hid (hO.out.fl.mono (T := fun b => w.heap.size ≤ b) (fun b h => by subst h; exact Nat.le_refl _))
      rw [mkd_all cs _ _ (by rw [hcl.out, Nat.mul_one])] at hO'
      have hI : Hid (Ints (fun b => w.heap.size ≤ b) wr (.slice (some ⟨w.heap.size, 0, none⟩) e.length e.length) ((List.range e.length).map (outs e))) := by
        have := hO'.out
        unfold Ints
        rw [List.map_map, List.length_map, List.length_range]
        exact this
      obtain ⟨ast, cst, hv, _⟩ := hst.out.shape
      rw [begs_len] at hv
      subst hv
      clear hO hO' hst
      by_cases h1 : s.length = 1
      · obtain ⟨t, rfl⟩ := List.length_eq_one_iff.1 h1
        go_wp2
        exact bodyPost_ret (results_tmp2 rfl _ _ _) rfl (RVn.mk hb ⟨_, _, rfl, ⟨fun _ => ⟨t, hp.out⟩, fun _ => rfl⟩, fun _ _ => hI.out⟩)
      · have e1 : ((s.length : Int) == 1) = false := by simp; omega
        have h1' := Lib.hid h1; clear h1
        go_wp2
        exact bodyPost_ret (results_tmp2 rfl _ _ _) rfl (RVn.mk hb ⟨_, _, rfl, ⟨nofun, fun ⟨t, h⟩ => absurd (by rw [hp.out] at h; cases h; rfl) h1'.out⟩, fun _ _ => hI.out⟩)
end Go.Proofs.Ytbcjhiponbfbnaa
