/- FnDfaValid answers true: the walk. -/
import Derived.Test.YtebcnamfpajneaaDrd
import Derived.Test.YtebcnamfpajneaaGG
import Derived.Test.YtebcnamfpajneaaGI
import Derived.Deep.RegionHeld3
set_option linter.unusedSimpArgs false
set_option linter.unusedVariables false
set_option linter.unusedSectionVars false
namespace Go.Proofs.Ytebcnamfpajneaa.fnDfaValid
open Go.RowKit
set_option maxRecDepth 100000
theorem bad1 {D : DfaD} (h : okD D) : ¬ okD ([0, 0, (D.1.length : Int)] :: D.1.drop 1, D.2) := by
  intro hb
  have h1 := hb.2.2 [0, 0, (D.1.length : Int)] (by simp)
  have h2 := h1.2 (D.1.length : Int) (by simp)
  have h3 := h.1.1
  have e : (([0, 0, (D.1.length : Int)] :: D.1.drop 1, D.2) : DfaD).1.length = D.1.length := by simp; omega
  rw [e] at h2
  omega
theorem bad2 {D : DfaD} (h : okD D) : ¬ okD (D.1, D.2.drop 1) := by
  intro hb
  have h1 := hb.2.1
  have h2 := h.2.1
  have h3 := h.1.1
  simp at h1
  omega
theorem litOwn {X : World} {base H L : Nat} (hk : X.heap[H]? = some (.cells #[.slice (some ⟨L, 0, none⟩) 3 3] 30 (0, 0))) (hb : base ≤ H) : X.ownsRow base 30 1 (.slice (some ⟨H, 0, none⟩) 1 1) 1 [.slice (some ⟨L, 0, none⟩) 3 3] :=
  ⟨rfl, .inr ⟨H, 1, _, rfl, hb, hk, Nat.le_refl _, by unfold maxLen; omega, by simp, by simp⟩⟩
theorem litInts {X : World} {L : Nat} {y : Int} (hk : X.heap[L]? = some (.cells #[.int .i64 0, .int .i64 0, .int .i64 y] 3 (0, 0))) : Ints (· = L) X (.slice (some ⟨L, 0, none⟩) 3 3) [0, 0, y] :=
  ownFlS (base := 0) (e := 3) (sz := 1) ⟨rfl, .inr ⟨L, 3, _, rfl, by omega, hk, Nat.le_refl _, by unfold maxLen; omega, by simp, by simp⟩⟩ (fun b h => by cases h; rfl)
/-- The bent automaton reads, whatever the order of making. -/
theorem badRd {W X w8 : World} {vE : Value} {D : DfaD} {H L n8 : Nat} {v8 : Value} {vs : List Value} (hb : Below W.heap.size W X) (hH : X.heap[H]? = some (.cells #[.slice (some ⟨L, 0, none⟩) 3 3] 30 (0, 0)))
    (hL : X.heap[L]? = some (.cells #[.int .i64 0, .int .i64 0, .int .i64 D.1.length] 3 (0, 0))) (hHW : W.heap.size ≤ H) (hLW : W.heap.size ≤ L)
    (hvs : vs.length = D.1.length) (hr : ∀ i (h : i < D.1.length), Ints (fun _ => True) W (vs.getD i undef) D.1[i]) (he : Bools (fun _ => True) W vE D.2)
    (h8 : w8.ownsRow W.heap.size 30 1 v8 n8 ([.slice (some ⟨L, 0, none⟩) 3 3] ++ vs.drop 1)) (hn8 : n8 = 1 + (D.1.length - 1)) (hg8 : X.grownBy w8 (some H)) (b : Nat) (hbW : W.heap.size ≤ b) (hbL : b ≠ L) (hb8 : v8.ownBlock ≠ some b) :
    DfaR (fun i => i ≠ b) w8 v8 vE ([0, 0, (D.1.length : Int)] :: D.1.drop 1, D.2) := by
  have hne : L ≠ H := fun e => by
    subst e
    rw [hL] at hH
    injection hH with hH
    injection hH with h1 h2
    exact absurd h2 (by decide)
  have hk : Kp (fun i => True ∧ i < W.heap.size) W w8 := fun ad v hs e => (kpG hg8) ad v (fun e' => by have h1 := hs.2; injection e' with e'; omega) (kpB (S := fun _ => True) hb ad v trivial e)
  have hkL : Kp (· = L) X w8 := (kpG hg8).mono fun i e => by subst e; intro e'; exact hne (by injection e')
  refine cons_dfa (ownFlS h8 (fun i hi e => by subst e; exact hb8 hi)) hn8 ((Fl.stay (litInts hL) hkL).mono fun i e => by subst e; exact fun e' => hbL e'.symm) hvs (fun i hi => (Fl.stay (Fl.inHeap (hr i hi)) hk).mono fun j hj => by have := hj.2; omega) ((Fl.stay (Fl.inHeap he) hk).mono fun j hj => by have := hj.2; omega)
set_option maxHeartbeats 16000000 in
theorem walk (w : World) (v : Value) (bs : List UInt8) (h : Bytes (fun _ => True) w v bs) :
    Calls Try.prog 3 #[v] w (Yes w) := by
  obtain ⟨a, cap, rfl, hn⟩ := h.shape
  have H := Lib.hid h; clear h
  by_cases hl : 1048576 < bs.length
  · go_enter Try.func3, Try.ntmps3
    go_wp2
    go_ret
    exact ⟨rfl, Below.refl _ _⟩
  · go_enter Try.func3, Try.ntmps3
    go_wp2_with fail
    refine (DrawDfaValid_c _ _ _ H.out).mono ?_
    rintro e w1 ⟨D, v1, v2, rfl, hb1, hd1⟩
    clear H hn hl
    obtain ⟨aD, cD, bD, dD, rfl, rfl, hnD, hmD⟩ := (hd1.out).shapes
    obtain ⟨W1, hW1, HN, XD⟩ := boxed hb1 (hd1.out)
    have HB := HN; clear HN
    have HW := Lib.hid hW1; clear hW1
    have zD0 := XD.out.c0
    have zD1 := XD.out.c1
    rw [HW.out] at zD0 zD1
    go_wp2_with fail
    rw [← HW.out]; clear HW
    clear zD0 zD1
    refine (DfaValid_c (.slice aD D.1.length cD) (.slice bD D.2.length dD) D W1 XD.out.r).mono ?_
    rintro e w2 ⟨ok, rfl, hb, hok⟩
    replace XD := Lib.hid (XD.out.stay hb)
    replace HB := Lib.hid (belUp HB.out (hb))
    clear hb
    have zD0 := XD.out.c0
    have zD1 := XD.out.c1
    go_wp2_with fail
    clear zD0 zD1
    refine (sDfaValid_c (.slice aD D.1.length cD) (.slice bD D.2.length dD) D w2 XD.out.r).mono ?_
    rintro e w3 ⟨fine, rfl, hb, hfine⟩
    replace XD := Lib.hid (XD.out.stay hb)
    replace HB := Lib.hid (belUp HB.out (hb))
    clear hb
    obtain rfl : fine = ok := boolEq hfine hok
    clear hok
    have hbn := bneSelf fine
    cases fine
    · clear hfine
      go_wp2_with fail
      refine (DfaValid_c (S := fun _ => True) (.slice none 0 0) (.slice none 0 0) ([], []) w3 (dfaNone _)).mono ?_
      rintro e w4 ⟨b4, rfl, hb, hp⟩
      obtain rfl : b4 = false := by cases b4; rfl; exact absurd (hbT hp) not_ok_nil
      replace XD := Lib.hid (XD.out.stay hb)
      replace HB := Lib.hid (belUp HB.out (hb))
      clear hb hp
      go_wp2_with fail
      refine (alive_c _).mono ?_
      rintro e w9 ⟨b9, rfl, rfl, hb9⟩
      obtain rfl : b9 = true := hb9.out.2 trivial
      go_wp2
      go_ret
      exact ⟨rfl, HB.out⟩
    · have hy := Lib.hid (hbT hfine); clear hfine
      have hl1 := hy.out.1
      have hE1 := hy.out.2.1
      obtain ⟨vs, f1'', f2'', f3''⟩ := XD.out.r.1
      have f1' := Lib.hid f1''
      have f2' := Lib.hid f2''
      have f3' := Lib.hid f3''
      have hone : Hid (∀ u ∈ vs.drop 1, u.oneCell' = true) := Lib.hid (rows_one f2'' f3'')
      obtain ⟨bN, oN, haN⟩ : ∃ b o, aD = some ⟨b, o, none⟩ := by obtain ⟨b, o, e, _⟩ := f1''.at (i := 0) (by omega); exact ⟨b, o, e⟩
      subst haN
      clear f1'' f2'' f3''
      have HE := Lib.hid XD.out.r.2
      have hlI : (1 : Int) ≤ (D.1.length : Int) := by omega
      have hEI : (1 : Int) ≤ (D.2.length : Int) := by omega
      have hE1' := Lib.hid hE1; clear hE1
      skip
      have F1 : Hid (Below w3.heap.size w3 (((w3.alloc (.cells #[.int .i64 0, .int .i64 0, .int .i64 D.1.length] 3)).alloc (.cells #[.slice (some ⟨w3.heap.size, 0, none⟩) 3 3] 30)).drew) ∧ (((w3.alloc (.cells #[.int .i64 0, .int .i64 0, .int .i64 D.1.length] 3)).alloc (.cells #[.slice (some ⟨w3.heap.size, 0, none⟩) 3 3] 30)).drew).heap[w3.heap.size + 1]? = some (.cells #[.slice (some ⟨w3.heap.size, 0, none⟩) 3 3] 30 (0, 0)) ∧ (((w3.alloc (.cells #[.int .i64 0, .int .i64 0, .int .i64 D.1.length] 3)).alloc (.cells #[.slice (some ⟨w3.heap.size, 0, none⟩) 3 3] 30)).drew).heap[w3.heap.size]? = some (.cells #[.int .i64 0, .int .i64 0, .int .i64 D.1.length] 3 (0, 0))) := ⟨(((Below.refl _ _).alloc (Nat.le_refl _) _).alloc (by simp) _).drew, blkNew _ _ (by simp), blkOld (blkNew _ _ (by simp))⟩
      have F2 : Hid (Below w3.heap.size w3 ((((w3.alloc (.cells #[.int .i64 0, .int .i64 0, .int .i64 D.1.length] 3)).alloc (.cells #[.slice (some ⟨w3.heap.size, 0, none⟩) 3 3] 30)).alloc (.cells #[.slice none 0 0, .slice none 0 0] 26)).drew) ∧ ((((w3.alloc (.cells #[.int .i64 0, .int .i64 0, .int .i64 D.1.length] 3)).alloc (.cells #[.slice (some ⟨w3.heap.size, 0, none⟩) 3 3] 30)).alloc (.cells #[.slice none 0 0, .slice none 0 0] 26)).drew).heap[w3.heap.size + 1]? = some (.cells #[.slice (some ⟨w3.heap.size, 0, none⟩) 3 3] 30 (0, 0)) ∧ ((((w3.alloc (.cells #[.int .i64 0, .int .i64 0, .int .i64 D.1.length] 3)).alloc (.cells #[.slice (some ⟨w3.heap.size, 0, none⟩) 3 3] 30)).alloc (.cells #[.slice none 0 0, .slice none 0 0] 26)).drew).heap[w3.heap.size]? = some (.cells #[.int .i64 0, .int .i64 0, .int .i64 D.1.length] 3 (0, 0)) ∧ ((((w3.alloc (.cells #[.int .i64 0, .int .i64 0, .int .i64 D.1.length] 3)).alloc (.cells #[.slice (some ⟨w3.heap.size, 0, none⟩) 3 3] 30)).alloc (.cells #[.slice none 0 0, .slice none 0 0] 26)).drew).heap[w3.heap.size + 1 + 1]? = some (.cells #[.slice none 0 0, .slice none 0 0] 26 (0, 0))) := ⟨((((Below.refl _ _).alloc (Nat.le_refl _) _).alloc (by simp) _).alloc (by simp; omega) _).drew, blkOld (blkNew _ _ (by simp)), blkOld (blkOld (blkNew _ _ (by simp))), blkNew _ _ (by simp)⟩
      have F3 : Hid (Below w3.heap.size w3 ((((w3.alloc (.cells #[.int .i64 0, .int .i64 0, .int .i64 D.1.length] 3)).alloc (.cells #[.slice none 0 0, .slice none 0 0] 26)).alloc (.cells #[.slice (some ⟨w3.heap.size, 0, none⟩) 3 3] 30)).drew) ∧ ((((w3.alloc (.cells #[.int .i64 0, .int .i64 0, .int .i64 D.1.length] 3)).alloc (.cells #[.slice none 0 0, .slice none 0 0] 26)).alloc (.cells #[.slice (some ⟨w3.heap.size, 0, none⟩) 3 3] 30)).drew).heap[w3.heap.size + 1 + 1]? = some (.cells #[.slice (some ⟨w3.heap.size, 0, none⟩) 3 3] 30 (0, 0)) ∧ ((((w3.alloc (.cells #[.int .i64 0, .int .i64 0, .int .i64 D.1.length] 3)).alloc (.cells #[.slice none 0 0, .slice none 0 0] 26)).alloc (.cells #[.slice (some ⟨w3.heap.size, 0, none⟩) 3 3] 30)).drew).heap[w3.heap.size]? = some (.cells #[.int .i64 0, .int .i64 0, .int .i64 D.1.length] 3 (0, 0)) ∧ ((((w3.alloc (.cells #[.int .i64 0, .int .i64 0, .int .i64 D.1.length] 3)).alloc (.cells #[.slice none 0 0, .slice none 0 0] 26)).alloc (.cells #[.slice (some ⟨w3.heap.size, 0, none⟩) 3 3] 30)).drew).heap[w3.heap.size + 1]? = some (.cells #[.slice none 0 0, .slice none 0 0] 26 (0, 0))) := ⟨((((Below.refl _ _).alloc (Nat.le_refl _) _).alloc (by simp) _).alloc (by simp; omega) _).drew, blkNew _ _ (by simp), blkOld (blkOld (blkNew _ _ (by simp))), blkOld (blkNew _ _ (by simp))⟩
      have F4 : Hid (Below w3.heap.size w3 ((((w3.alloc (.cells #[.slice none 0 0, .slice none 0 0] 26)).alloc (.cells #[.int .i64 0, .int .i64 0, .int .i64 D.1.length] 3)).alloc (.cells #[.slice (some ⟨w3.heap.size + 1, 0, none⟩) 3 3] 30)).drew) ∧ ((((w3.alloc (.cells #[.slice none 0 0, .slice none 0 0] 26)).alloc (.cells #[.int .i64 0, .int .i64 0, .int .i64 D.1.length] 3)).alloc (.cells #[.slice (some ⟨w3.heap.size + 1, 0, none⟩) 3 3] 30)).drew).heap[w3.heap.size + 1 + 1]? = some (.cells #[.slice (some ⟨w3.heap.size + 1, 0, none⟩) 3 3] 30 (0, 0)) ∧ ((((w3.alloc (.cells #[.slice none 0 0, .slice none 0 0] 26)).alloc (.cells #[.int .i64 0, .int .i64 0, .int .i64 D.1.length] 3)).alloc (.cells #[.slice (some ⟨w3.heap.size + 1, 0, none⟩) 3 3] 30)).drew).heap[w3.heap.size + 1]? = some (.cells #[.int .i64 0, .int .i64 0, .int .i64 D.1.length] 3 (0, 0)) ∧ ((((w3.alloc (.cells #[.slice none 0 0, .slice none 0 0] 26)).alloc (.cells #[.int .i64 0, .int .i64 0, .int .i64 D.1.length] 3)).alloc (.cells #[.slice (some ⟨w3.heap.size + 1, 0, none⟩) 3 3] 30)).drew).heap[w3.heap.size]? = some (.cells #[.slice none 0 0, .slice none 0 0] 26 (0, 0))) := ⟨((((Below.refl _ _).alloc (Nat.le_refl _) _).alloc (by simp) _).alloc (by simp; omega) _).drew, blkNew _ _ (by simp), blkOld (blkNew _ _ (by simp)), blkOld (blkOld (blkNew _ _ (by simp)))⟩
      have e1 : Hid (1 + (D.1.length - 1) = D.1.length) := by show _ = _; omega
      obtain ⟨BD, hBD⟩ : ∃ x, x = (([0, 0, (D.1.length : Int)] :: D.1.drop 1, D.2) : DfaD) := ⟨_, rfl⟩
      replace hBD := Lib.hid hBD
      obtain ⟨bE, oE, haE⟩ : ∃ b o, bD = some ⟨b, o, none⟩ := by obtain ⟨b, o, e, _⟩ := Bools.at HE.out (k := 0) (by omega); exact ⟨b, o, e⟩
      subst haE
      by_cases hcN : cD = 1
      · subst hcN
        have ht : Hid (Fl (fun _ => True) w3 (.slice (some ⟨bN, oN, none⟩) (D.1.length - 1) 0) (D.1.length - 1) (vs.drop 1)) := Lib.hid (fl_tail0 f1'.out (by rw [f2'.out]) hl1.1)
        have zD0 := XD.out.c0
        have zD1 := XD.out.c1
        go_wp2_with fail
        clear zD0 zD1
        have hS : Hid (∀ w', Below w3.heap.size w3 w' → w'.cell? ⟨w1.heap.size, 0, none⟩ = some (.slice (some ⟨bN, oN, none⟩) D.1.length 1) ∧ w'.cell? ⟨w1.heap.size, 1, none⟩ = some (.slice (some ⟨bE, oE, none⟩) D.2.length dD)) := fun w' hb => ⟨(XD.out.stay hb).c0, (XD.out.stay hb).c1⟩
        have hb0 := (Below.refl w3.heap.size w3).drew
        go_region_held3 (fun w' => w'.cell? ⟨w1.heap.size, 0, none⟩ = some (.slice (some ⟨bN, oN, none⟩) D.1.length 1) ∧ w'.cell? ⟨w1.heap.size, 1, none⟩ = some (.slice (some ⟨bE, oE, none⟩) D.2.length dD))
          (first | exact hS.out _ (by assumption) | exact hS.out _ F1.out.1 | exact hS.out _ F2.out.1 | exact hS.out _ F3.out.1 | exact hS.out _ F4.out.1 | exact hS.out _ (belAlloc _ _).drew | exact hS.out _ (((Below.refl _ _).alloc (Nat.le_refl _) _).alloc (by simp) _).drew | exact hS.out _ (belUp (by assumption) (belAlloc _ _)) | exact hS.out _ (((belUp (by assumption) (belAlloc _ _)).setCell (by first | exact Nat.le_refl _ | exact Below.size (by assumption) | (simp <;> omega)) _).setCell (by first | exact Nat.le_refl _ | exact Below.size (by assumption) | (simp <;> omega)) _) | exact hS.out _ ((Below.setCell (by assumption) (by first | exact Nat.le_refl _ | exact Below.size (by assumption) | (simp <;> omega)) _).setCell (by first | exact Nat.le_refl _ | exact Below.size (by assumption) | (simp <;> omega)) _))
          (first
            | (refine stepAppMany (S := fun _ => True) elInts (by decide) rfl (.tmp 29) (.tmp 32) rfl w3.heap.size (.slice (some ⟨w3.heap.size + 1, 0, none⟩) 1 1) 1 (D.1.length - 1) _ (vs.drop 1) (((w3.alloc (.cells #[.int .i64 0, .int .i64 0, .int .i64 D.1.length] 3)).alloc (.cells #[.slice (some ⟨w3.heap.size, 0, none⟩) 3 3] 30)).drew) ⟨bN, oN, none⟩ 0 rfl rfl (litOwn (H := w3.heap.size + 1) (L := w3.heap.size) F1.out.2.1 (by omega)) (by omega) (Fl.stay ht.out (kpB F1.out.1)) (by rw [List.length_drop, f2'.out, Nat.mul_one]) hone.out (by omega) F1.out.1.size ?_; intro v8 w8 h8 hg8; rw [e1.out] at h8; have hbel8 : Below w3.heap.size w3 w8 := F1.out.1.grown hg8 F1.out.1.size (fun k e => by have e2 : some (w3.heap.size + 1) = some k := e; injection e2 with e2; omega); have HBd := Lib.hid (badRd (H := w3.heap.size + 1) (L := w3.heap.size) F1.out.1 F1.out.2.1 F1.out.2.2 (by omega) (by omega) f2'.out f3'.out HE.out h8.out e1.out.symm hg8); have hLt := Nat.lt_of_lt_of_le (Array.getElem?_eq_some_iff.1 F1.out.2.2).1 hg8.size; obtain ⟨a8, c8, rfl, _⟩ := (ownFl h8.out).shape; rw [← hBD.out] at HBd)
            | (refine stepAppMany (S := fun _ => True) elInts (by decide) rfl (.tmp 29) (.tmp 32) rfl w3.heap.size (.slice (some ⟨w3.heap.size + 1, 0, none⟩) 1 1) 1 (D.1.length - 1) _ (vs.drop 1) ((((w3.alloc (.cells #[.int .i64 0, .int .i64 0, .int .i64 D.1.length] 3)).alloc (.cells #[.slice (some ⟨w3.heap.size, 0, none⟩) 3 3] 30)).alloc (.cells #[.slice none 0 0, .slice none 0 0] 26)).drew) ⟨bN, oN, none⟩ 0 rfl rfl (litOwn (H := w3.heap.size + 1) (L := w3.heap.size) F2.out.2.1 (by omega)) (by omega) (Fl.stay ht.out (kpB F2.out.1)) (by rw [List.length_drop, f2'.out, Nat.mul_one]) hone.out (by omega) F2.out.1.size ?_; intro v8 w8 h8 hg8; rw [e1.out] at h8; have hbel8 : Below w3.heap.size w3 w8 := F2.out.1.grown hg8 F2.out.1.size (fun k e => by have e2 : some (w3.heap.size + 1) = some k := e; injection e2 with e2; omega); have HBd := Lib.hid (badRd (H := w3.heap.size + 1) (L := w3.heap.size) F2.out.1 F2.out.2.1 F2.out.2.2.1 (by omega) (by omega) f2'.out f3'.out HE.out h8.out e1.out.symm hg8); have hLt := Nat.lt_of_lt_of_le (Array.getElem?_eq_some_iff.1 F2.out.2.2.1).1 hg8.size; have k5 := Lib.hid (blkGrow hg8 F2.out.2.2.2 (by intro e; have e2 : some (w3.heap.size + 1 + 1) = some (w3.heap.size + 1) := e; injection e2 with e2; omega)); have kq := blk2 k5.out; obtain ⟨s0, s1, s2, s3⟩ := kq; have hqL := (by omega : w3.heap.size + 1 + 1 ≠ w3.heap.size); obtain ⟨a8, c8, rfl, _⟩ := (ownFl h8.out).shape; rw [← hBD.out] at HBd)
            | (refine stepAppMany (S := fun _ => True) elInts (by decide) rfl (.tmp 29) (.tmp 32) rfl w3.heap.size (.slice (some ⟨w3.heap.size + 1 + 1, 0, none⟩) 1 1) 1 (D.1.length - 1) _ (vs.drop 1) ((((w3.alloc (.cells #[.int .i64 0, .int .i64 0, .int .i64 D.1.length] 3)).alloc (.cells #[.slice none 0 0, .slice none 0 0] 26)).alloc (.cells #[.slice (some ⟨w3.heap.size, 0, none⟩) 3 3] 30)).drew) ⟨bN, oN, none⟩ 0 rfl rfl (litOwn (H := w3.heap.size + 1 + 1) (L := w3.heap.size) F3.out.2.1 (by omega)) (by omega) (Fl.stay ht.out (kpB F3.out.1)) (by rw [List.length_drop, f2'.out, Nat.mul_one]) hone.out (by omega) F3.out.1.size ?_; intro v8 w8 h8 hg8; rw [e1.out] at h8; have hbel8 : Below w3.heap.size w3 w8 := F3.out.1.grown hg8 F3.out.1.size (fun k e => by have e2 : some (w3.heap.size + 1 + 1) = some k := e; injection e2 with e2; omega); have HBd := Lib.hid (badRd (H := w3.heap.size + 1 + 1) (L := w3.heap.size) F3.out.1 F3.out.2.1 F3.out.2.2.1 (by omega) (by omega) f2'.out f3'.out HE.out h8.out e1.out.symm hg8); have hLt := Nat.lt_of_lt_of_le (Array.getElem?_eq_some_iff.1 F3.out.2.2.1).1 hg8.size; have k5 := Lib.hid (blkGrow hg8 F3.out.2.2.2 (by intro e; have e2 : some (w3.heap.size + 1) = some (w3.heap.size + 1 + 1) := e; injection e2 with e2; omega)); have kq := blk2 k5.out; obtain ⟨s0, s1, s2, s3⟩ := kq; have hqL := (by omega : w3.heap.size + 1 ≠ w3.heap.size); obtain ⟨a8, c8, rfl, _⟩ := (ownFl h8.out).shape; rw [← hBD.out] at HBd)
            | (refine stepAppMany (S := fun _ => True) elInts (by decide) rfl (.tmp 29) (.tmp 32) rfl w3.heap.size (.slice (some ⟨w3.heap.size + 1 + 1, 0, none⟩) 1 1) 1 (D.1.length - 1) _ (vs.drop 1) ((((w3.alloc (.cells #[.slice none 0 0, .slice none 0 0] 26)).alloc (.cells #[.int .i64 0, .int .i64 0, .int .i64 D.1.length] 3)).alloc (.cells #[.slice (some ⟨w3.heap.size + 1, 0, none⟩) 3 3] 30)).drew) ⟨bN, oN, none⟩ 0 rfl rfl (litOwn (H := w3.heap.size + 1 + 1) (L := w3.heap.size + 1) F4.out.2.1 (by omega)) (by omega) (Fl.stay ht.out (kpB F4.out.1)) (by rw [List.length_drop, f2'.out, Nat.mul_one]) hone.out (by omega) F4.out.1.size ?_; intro v8 w8 h8 hg8; rw [e1.out] at h8; have hbel8 : Below w3.heap.size w3 w8 := F4.out.1.grown hg8 F4.out.1.size (fun k e => by have e2 : some (w3.heap.size + 1 + 1) = some k := e; injection e2 with e2; omega); have HBd := Lib.hid (badRd (H := w3.heap.size + 1 + 1) (L := w3.heap.size + 1) F4.out.1 F4.out.2.1 F4.out.2.2.1 (by omega) (by omega) f2'.out f3'.out HE.out h8.out e1.out.symm hg8); have hLt := Nat.lt_of_lt_of_le (Array.getElem?_eq_some_iff.1 F4.out.2.2.1).1 hg8.size; have k5 := Lib.hid (blkGrow hg8 F4.out.2.2.2 (by intro e; have e2 : some (w3.heap.size) = some (w3.heap.size + 1 + 1) := e; injection e2 with e2; omega)); have kq := blk2 k5.out; obtain ⟨s0, s1, s2, s3⟩ := kq; have hqL := (by omega : w3.heap.size ≠ w3.heap.size + 1); obtain ⟨a8, c8, rfl, _⟩ := (ownFl h8.out).shape; rw [← hBD.out] at HBd))
        all_goals (
          first
            | (have hq9 := HBd.out _ (by omega) hqL (ownNe h8.out k5.out (by decide)); have kq := boxedSet hbel8 (by first | exact Nat.le_refl _ | omega) k5.out hq9 (fun i hi => hi); obtain ⟨Wn, hWn, HN, XT⟩ := kq)
            | (have hq9 := HBd.out w8.heap.size hbel8.size (by omega) (fun e => by have := (World.ownsRow.lt h8.out _ e).2; omega); obtain ⟨Wn, hWn, HN, XT⟩ := boxed hbel8 hq9)
          replace XD := Lib.hid (XD.out.stay HN.out)
          replace HB := Lib.hid (belUp HB.out HN.out)
          obtain ⟨Bn, hBn, XTb⟩ := XT.out.named
          replace XT := XTb
          rw [← hWn, ← hBn]
          clear hWn hBn XTb HBd
          clear HN
          by_cases hcE : dD = 1
          · subst hcE
            have HR2 : Hid (DfaR (fun _ => True) Wn (.slice (some ⟨bN, oN, none⟩) D.1.length 1) (.slice (some ⟨bE, oE, none⟩) (D.2.length - 1) 0) (D.1, D.2.drop 1)) := Lib.hid ⟨XD.out.r.1, by have := fl_tail0 XD.out.r.2 (by simp) (by omega); unfold Bools; rw [List.length_drop, List.map_drop]; exact this⟩
            clear hb0 hS hbel8
            have zD0 := XD.out.c0
            have zD1 := XD.out.c1
            have zBD0 := XT.out.c0
            have zBD1 := XT.out.c1
            go_wp2_with fail
            clear zD0 zD1 zBD0 zBD1
            have hS : Hid (∀ w', Below Wn.heap.size Wn w' → w'.cell? ⟨w1.heap.size, 0, none⟩ = some (.slice (some ⟨bN, oN, none⟩) D.1.length 1) ∧ w'.cell? ⟨w1.heap.size, 1, none⟩ = some (.slice (some ⟨bE, oE, none⟩) D.2.length 1) ∧ w'.cell? ⟨Bn, 0, none⟩ = some (.slice a8 D.1.length c8) ∧ w'.cell? ⟨Bn, 1, none⟩ = some (.slice (some ⟨bE, oE, none⟩) D.2.length 1)) := fun w' hb => ⟨(XD.out.stay hb).c0, (XD.out.stay hb).c1, (XT.out.stay hb).c0, (XT.out.stay hb).c1⟩
            have hb0 := (Below.refl Wn.heap.size Wn).drew
            go_region_held3 (fun w' => w'.cell? ⟨w1.heap.size, 0, none⟩ = some (.slice (some ⟨bN, oN, none⟩) D.1.length 1) ∧ w'.cell? ⟨w1.heap.size, 1, none⟩ = some (.slice (some ⟨bE, oE, none⟩) D.2.length 1) ∧ w'.cell? ⟨Bn, 0, none⟩ = some (.slice a8 D.1.length c8) ∧ w'.cell? ⟨Bn, 1, none⟩ = some (.slice (some ⟨bE, oE, none⟩) D.2.length 1))
              (exact hS.out _ (by assumption))
              (first
                | (go_at_call 16; (with_reducible refine atArgs #[.agg #[.slice a8 D.1.length c8, .slice (some ⟨bE, oE, none⟩) D.2.length 1]] ?_); refine ((DfaValid_c (.slice a8 D.1.length c8) (.slice (some ⟨bE, oE, none⟩) D.2.length 1) BD _ (XT.out.stay (by assumption)).r)).mono ?_; rintro e p5 ⟨b5, rfl, hb5, hp5⟩; have hc0 := belUp (w := Wn) (by first | assumption | exact belUp (by assumption) (belAlloc _ _)) hb5; obtain rfl : b5 = false := (by cases b5; rfl; exact absurd (hbT hp5) (by rw [hBD.out]; exact bad1 hy.out)))
                | (go_at_call 16; (with_reducible refine atArgs #[.agg #[.slice (some ⟨bN, oN, none⟩) D.1.length 1, .slice (some ⟨bE, oE, none⟩) (D.2.length - 1) 0]] ?_); refine (DfaValid_c (.slice (some ⟨bN, oN, none⟩) D.1.length 1) (.slice (some ⟨bE, oE, none⟩) (D.2.length - 1) 0) (D.1, D.2.drop 1) _ (HR2.out.stay (kpB (by assumption)))).mono ?_; rintro e p6 ⟨b6, rfl, hb6, hp6⟩; have hc1 := belUp (w := Wn) (by first | assumption | exact belUp (by assumption) (belAlloc _ _)) hb6; obtain rfl : b6 = false := (by cases b6; rfl; exact absurd (hbT hp6) (bad2 hy.out))))
            go_wp2
            go_ret
            exact ⟨rfl, belUp HB.out hc1⟩
          · skip
            have HR2 : Hid (DfaR (fun _ => True) Wn (.slice (some ⟨bN, oN, none⟩) D.1.length 1) (.slice (some ⟨bE, oE + 1, none⟩) (D.2.length - 1) (dD - 1)) (D.1, D.2.drop 1)) := Lib.hid ⟨XD.out.r.1, by have := fl_tail XD.out.r.2 (by simp) (by omega); unfold Bools; rw [List.length_drop, List.map_drop]; exact this⟩
            clear hb0 hS hbel8
            have zD0 := XD.out.c0
            have zD1 := XD.out.c1
            have zBD0 := XT.out.c0
            have zBD1 := XT.out.c1
            go_wp2_with fail
            clear zD0 zD1 zBD0 zBD1
            have hS : Hid (∀ w', Below Wn.heap.size Wn w' → w'.cell? ⟨w1.heap.size, 0, none⟩ = some (.slice (some ⟨bN, oN, none⟩) D.1.length 1) ∧ w'.cell? ⟨w1.heap.size, 1, none⟩ = some (.slice (some ⟨bE, oE, none⟩) D.2.length dD) ∧ w'.cell? ⟨Bn, 0, none⟩ = some (.slice a8 D.1.length c8) ∧ w'.cell? ⟨Bn, 1, none⟩ = some (.slice (some ⟨bE, oE, none⟩) D.2.length dD)) := fun w' hb => ⟨(XD.out.stay hb).c0, (XD.out.stay hb).c1, (XT.out.stay hb).c0, (XT.out.stay hb).c1⟩
            have hb0 := (Below.refl Wn.heap.size Wn).drew
            go_region_held3 (fun w' => w'.cell? ⟨w1.heap.size, 0, none⟩ = some (.slice (some ⟨bN, oN, none⟩) D.1.length 1) ∧ w'.cell? ⟨w1.heap.size, 1, none⟩ = some (.slice (some ⟨bE, oE, none⟩) D.2.length dD) ∧ w'.cell? ⟨Bn, 0, none⟩ = some (.slice a8 D.1.length c8) ∧ w'.cell? ⟨Bn, 1, none⟩ = some (.slice (some ⟨bE, oE, none⟩) D.2.length dD))
              (exact hS.out _ (by assumption))
              (first
                | (go_at_call 16; (with_reducible refine atArgs #[.agg #[.slice a8 D.1.length c8, .slice (some ⟨bE, oE, none⟩) D.2.length dD]] ?_); refine ((DfaValid_c (.slice a8 D.1.length c8) (.slice (some ⟨bE, oE, none⟩) D.2.length dD) BD _ (XT.out.stay (by assumption)).r)).mono ?_; rintro e p5 ⟨b5, rfl, hb5, hp5⟩; have hc0 := belUp (w := Wn) (by first | assumption | exact belUp (by assumption) (belAlloc _ _)) hb5; obtain rfl : b5 = false := (by cases b5; rfl; exact absurd (hbT hp5) (by rw [hBD.out]; exact bad1 hy.out)))
                | (go_at_call 16; (with_reducible refine atArgs #[.agg #[.slice (some ⟨bN, oN, none⟩) D.1.length 1, .slice (some ⟨bE, oE + 1, none⟩) (D.2.length - 1) (dD - 1)]] ?_); refine (DfaValid_c (.slice (some ⟨bN, oN, none⟩) D.1.length 1) (.slice (some ⟨bE, oE + 1, none⟩) (D.2.length - 1) (dD - 1)) (D.1, D.2.drop 1) _ (HR2.out.stay (kpB (by assumption)))).mono ?_; rintro e p6 ⟨b6, rfl, hb6, hp6⟩; have hc1 := belUp (w := Wn) (by first | assumption | exact belUp (by assumption) (belAlloc _ _)) hb6; obtain rfl : b6 = false := (by cases b6; rfl; exact absurd (hbT hp6) (bad2 hy.out))))
            go_wp2
            go_ret
            exact ⟨rfl, belUp HB.out hc1⟩)
      · skip
        have ht : Hid (Fl (fun _ => True) w3 (.slice (some ⟨bN, oN + 1, none⟩) (D.1.length - 1) (cD - 1)) (D.1.length - 1) (vs.drop 1)) := Lib.hid (fl_tail f1'.out (by rw [f2'.out]) hl1.1)
        have zD0 := XD.out.c0
        have zD1 := XD.out.c1
        go_wp2_with fail
        clear zD0 zD1
        have hS : Hid (∀ w', Below w3.heap.size w3 w' → w'.cell? ⟨w1.heap.size, 0, none⟩ = some (.slice (some ⟨bN, oN, none⟩) D.1.length cD) ∧ w'.cell? ⟨w1.heap.size, 1, none⟩ = some (.slice (some ⟨bE, oE, none⟩) D.2.length dD)) := fun w' hb => ⟨(XD.out.stay hb).c0, (XD.out.stay hb).c1⟩
        have hb0 := (Below.refl w3.heap.size w3).drew
        go_region_held3 (fun w' => w'.cell? ⟨w1.heap.size, 0, none⟩ = some (.slice (some ⟨bN, oN, none⟩) D.1.length cD) ∧ w'.cell? ⟨w1.heap.size, 1, none⟩ = some (.slice (some ⟨bE, oE, none⟩) D.2.length dD))
          (first | exact hS.out _ (by assumption) | exact hS.out _ F1.out.1 | exact hS.out _ F2.out.1 | exact hS.out _ F3.out.1 | exact hS.out _ F4.out.1 | exact hS.out _ (belAlloc _ _).drew | exact hS.out _ (((Below.refl _ _).alloc (Nat.le_refl _) _).alloc (by simp) _).drew | exact hS.out _ (belUp (by assumption) (belAlloc _ _)) | exact hS.out _ (((belUp (by assumption) (belAlloc _ _)).setCell (by first | exact Nat.le_refl _ | exact Below.size (by assumption) | (simp <;> omega)) _).setCell (by first | exact Nat.le_refl _ | exact Below.size (by assumption) | (simp <;> omega)) _) | exact hS.out _ ((Below.setCell (by assumption) (by first | exact Nat.le_refl _ | exact Below.size (by assumption) | (simp <;> omega)) _).setCell (by first | exact Nat.le_refl _ | exact Below.size (by assumption) | (simp <;> omega)) _))
          (first
            | (refine stepAppMany (S := fun _ => True) elInts (by decide) rfl (.tmp 29) (.tmp 32) rfl w3.heap.size (.slice (some ⟨w3.heap.size + 1, 0, none⟩) 1 1) 1 (D.1.length - 1) _ (vs.drop 1) (((w3.alloc (.cells #[.int .i64 0, .int .i64 0, .int .i64 D.1.length] 3)).alloc (.cells #[.slice (some ⟨w3.heap.size, 0, none⟩) 3 3] 30)).drew) ⟨bN, oN + 1, none⟩ (cD - 1) rfl rfl (litOwn (H := w3.heap.size + 1) (L := w3.heap.size) F1.out.2.1 (by omega)) (by omega) (Fl.stay ht.out (kpB F1.out.1)) (by rw [List.length_drop, f2'.out, Nat.mul_one]) hone.out (by omega) F1.out.1.size ?_; intro v8 w8 h8 hg8; rw [e1.out] at h8; have hbel8 : Below w3.heap.size w3 w8 := F1.out.1.grown hg8 F1.out.1.size (fun k e => by have e2 : some (w3.heap.size + 1) = some k := e; injection e2 with e2; omega); have HBd := Lib.hid (badRd (H := w3.heap.size + 1) (L := w3.heap.size) F1.out.1 F1.out.2.1 F1.out.2.2 (by omega) (by omega) f2'.out f3'.out HE.out h8.out e1.out.symm hg8); have hLt := Nat.lt_of_lt_of_le (Array.getElem?_eq_some_iff.1 F1.out.2.2).1 hg8.size; obtain ⟨a8, c8, rfl, _⟩ := (ownFl h8.out).shape; rw [← hBD.out] at HBd)
            | (refine stepAppMany (S := fun _ => True) elInts (by decide) rfl (.tmp 29) (.tmp 32) rfl w3.heap.size (.slice (some ⟨w3.heap.size + 1, 0, none⟩) 1 1) 1 (D.1.length - 1) _ (vs.drop 1) ((((w3.alloc (.cells #[.int .i64 0, .int .i64 0, .int .i64 D.1.length] 3)).alloc (.cells #[.slice (some ⟨w3.heap.size, 0, none⟩) 3 3] 30)).alloc (.cells #[.slice none 0 0, .slice none 0 0] 26)).drew) ⟨bN, oN + 1, none⟩ (cD - 1) rfl rfl (litOwn (H := w3.heap.size + 1) (L := w3.heap.size) F2.out.2.1 (by omega)) (by omega) (Fl.stay ht.out (kpB F2.out.1)) (by rw [List.length_drop, f2'.out, Nat.mul_one]) hone.out (by omega) F2.out.1.size ?_; intro v8 w8 h8 hg8; rw [e1.out] at h8; have hbel8 : Below w3.heap.size w3 w8 := F2.out.1.grown hg8 F2.out.1.size (fun k e => by have e2 : some (w3.heap.size + 1) = some k := e; injection e2 with e2; omega); have HBd := Lib.hid (badRd (H := w3.heap.size + 1) (L := w3.heap.size) F2.out.1 F2.out.2.1 F2.out.2.2.1 (by omega) (by omega) f2'.out f3'.out HE.out h8.out e1.out.symm hg8); have hLt := Nat.lt_of_lt_of_le (Array.getElem?_eq_some_iff.1 F2.out.2.2.1).1 hg8.size; have k5 := Lib.hid (blkGrow hg8 F2.out.2.2.2 (by intro e; have e2 : some (w3.heap.size + 1 + 1) = some (w3.heap.size + 1) := e; injection e2 with e2; omega)); have kq := blk2 k5.out; obtain ⟨s0, s1, s2, s3⟩ := kq; have hqL := (by omega : w3.heap.size + 1 + 1 ≠ w3.heap.size); obtain ⟨a8, c8, rfl, _⟩ := (ownFl h8.out).shape; rw [← hBD.out] at HBd)
            | (refine stepAppMany (S := fun _ => True) elInts (by decide) rfl (.tmp 29) (.tmp 32) rfl w3.heap.size (.slice (some ⟨w3.heap.size + 1 + 1, 0, none⟩) 1 1) 1 (D.1.length - 1) _ (vs.drop 1) ((((w3.alloc (.cells #[.int .i64 0, .int .i64 0, .int .i64 D.1.length] 3)).alloc (.cells #[.slice none 0 0, .slice none 0 0] 26)).alloc (.cells #[.slice (some ⟨w3.heap.size, 0, none⟩) 3 3] 30)).drew) ⟨bN, oN + 1, none⟩ (cD - 1) rfl rfl (litOwn (H := w3.heap.size + 1 + 1) (L := w3.heap.size) F3.out.2.1 (by omega)) (by omega) (Fl.stay ht.out (kpB F3.out.1)) (by rw [List.length_drop, f2'.out, Nat.mul_one]) hone.out (by omega) F3.out.1.size ?_; intro v8 w8 h8 hg8; rw [e1.out] at h8; have hbel8 : Below w3.heap.size w3 w8 := F3.out.1.grown hg8 F3.out.1.size (fun k e => by have e2 : some (w3.heap.size + 1 + 1) = some k := e; injection e2 with e2; omega); have HBd := Lib.hid (badRd (H := w3.heap.size + 1 + 1) (L := w3.heap.size) F3.out.1 F3.out.2.1 F3.out.2.2.1 (by omega) (by omega) f2'.out f3'.out HE.out h8.out e1.out.symm hg8); have hLt := Nat.lt_of_lt_of_le (Array.getElem?_eq_some_iff.1 F3.out.2.2.1).1 hg8.size; have k5 := Lib.hid (blkGrow hg8 F3.out.2.2.2 (by intro e; have e2 : some (w3.heap.size + 1) = some (w3.heap.size + 1 + 1) := e; injection e2 with e2; omega)); have kq := blk2 k5.out; obtain ⟨s0, s1, s2, s3⟩ := kq; have hqL := (by omega : w3.heap.size + 1 ≠ w3.heap.size); obtain ⟨a8, c8, rfl, _⟩ := (ownFl h8.out).shape; rw [← hBD.out] at HBd)
            | (refine stepAppMany (S := fun _ => True) elInts (by decide) rfl (.tmp 29) (.tmp 32) rfl w3.heap.size (.slice (some ⟨w3.heap.size + 1 + 1, 0, none⟩) 1 1) 1 (D.1.length - 1) _ (vs.drop 1) ((((w3.alloc (.cells #[.slice none 0 0, .slice none 0 0] 26)).alloc (.cells #[.int .i64 0, .int .i64 0, .int .i64 D.1.length] 3)).alloc (.cells #[.slice (some ⟨w3.heap.size + 1, 0, none⟩) 3 3] 30)).drew) ⟨bN, oN + 1, none⟩ (cD - 1) rfl rfl (litOwn (H := w3.heap.size + 1 + 1) (L := w3.heap.size + 1) F4.out.2.1 (by omega)) (by omega) (Fl.stay ht.out (kpB F4.out.1)) (by rw [List.length_drop, f2'.out, Nat.mul_one]) hone.out (by omega) F4.out.1.size ?_; intro v8 w8 h8 hg8; rw [e1.out] at h8; have hbel8 : Below w3.heap.size w3 w8 := F4.out.1.grown hg8 F4.out.1.size (fun k e => by have e2 : some (w3.heap.size + 1 + 1) = some k := e; injection e2 with e2; omega); have HBd := Lib.hid (badRd (H := w3.heap.size + 1 + 1) (L := w3.heap.size + 1) F4.out.1 F4.out.2.1 F4.out.2.2.1 (by omega) (by omega) f2'.out f3'.out HE.out h8.out e1.out.symm hg8); have hLt := Nat.lt_of_lt_of_le (Array.getElem?_eq_some_iff.1 F4.out.2.2.1).1 hg8.size; have k5 := Lib.hid (blkGrow hg8 F4.out.2.2.2 (by intro e; have e2 : some (w3.heap.size) = some (w3.heap.size + 1 + 1) := e; injection e2 with e2; omega)); have kq := blk2 k5.out; obtain ⟨s0, s1, s2, s3⟩ := kq; have hqL := (by omega : w3.heap.size ≠ w3.heap.size + 1); obtain ⟨a8, c8, rfl, _⟩ := (ownFl h8.out).shape; rw [← hBD.out] at HBd))
        all_goals (
          first
            | (have hq9 := HBd.out _ (by omega) hqL (ownNe h8.out k5.out (by decide)); have kq := boxedSet hbel8 (by first | exact Nat.le_refl _ | omega) k5.out hq9 (fun i hi => hi); obtain ⟨Wn, hWn, HN, XT⟩ := kq)
            | (have hq9 := HBd.out w8.heap.size hbel8.size (by omega) (fun e => by have := (World.ownsRow.lt h8.out _ e).2; omega); obtain ⟨Wn, hWn, HN, XT⟩ := boxed hbel8 hq9)
          replace XD := Lib.hid (XD.out.stay HN.out)
          replace HB := Lib.hid (belUp HB.out HN.out)
          obtain ⟨Bn, hBn, XTb⟩ := XT.out.named
          replace XT := XTb
          rw [← hWn, ← hBn]
          clear hWn hBn XTb HBd
          clear HN
          by_cases hcE : dD = 1
          · subst hcE
            have HR2 : Hid (DfaR (fun _ => True) Wn (.slice (some ⟨bN, oN, none⟩) D.1.length cD) (.slice (some ⟨bE, oE, none⟩) (D.2.length - 1) 0) (D.1, D.2.drop 1)) := Lib.hid ⟨XD.out.r.1, by have := fl_tail0 XD.out.r.2 (by simp) (by omega); unfold Bools; rw [List.length_drop, List.map_drop]; exact this⟩
            clear hb0 hS hbel8
            have zD0 := XD.out.c0
            have zD1 := XD.out.c1
            have zBD0 := XT.out.c0
            have zBD1 := XT.out.c1
            go_wp2_with fail
            clear zD0 zD1 zBD0 zBD1
            have hS : Hid (∀ w', Below Wn.heap.size Wn w' → w'.cell? ⟨w1.heap.size, 0, none⟩ = some (.slice (some ⟨bN, oN, none⟩) D.1.length cD) ∧ w'.cell? ⟨w1.heap.size, 1, none⟩ = some (.slice (some ⟨bE, oE, none⟩) D.2.length 1) ∧ w'.cell? ⟨Bn, 0, none⟩ = some (.slice a8 D.1.length c8) ∧ w'.cell? ⟨Bn, 1, none⟩ = some (.slice (some ⟨bE, oE, none⟩) D.2.length 1)) := fun w' hb => ⟨(XD.out.stay hb).c0, (XD.out.stay hb).c1, (XT.out.stay hb).c0, (XT.out.stay hb).c1⟩
            have hb0 := (Below.refl Wn.heap.size Wn).drew
            go_region_held3 (fun w' => w'.cell? ⟨w1.heap.size, 0, none⟩ = some (.slice (some ⟨bN, oN, none⟩) D.1.length cD) ∧ w'.cell? ⟨w1.heap.size, 1, none⟩ = some (.slice (some ⟨bE, oE, none⟩) D.2.length 1) ∧ w'.cell? ⟨Bn, 0, none⟩ = some (.slice a8 D.1.length c8) ∧ w'.cell? ⟨Bn, 1, none⟩ = some (.slice (some ⟨bE, oE, none⟩) D.2.length 1))
              (exact hS.out _ (by assumption))
              (first
                | (go_at_call 16; (with_reducible refine atArgs #[.agg #[.slice a8 D.1.length c8, .slice (some ⟨bE, oE, none⟩) D.2.length 1]] ?_); refine ((DfaValid_c (.slice a8 D.1.length c8) (.slice (some ⟨bE, oE, none⟩) D.2.length 1) BD _ (XT.out.stay (by assumption)).r)).mono ?_; rintro e p5 ⟨b5, rfl, hb5, hp5⟩; have hc0 := belUp (w := Wn) (by first | assumption | exact belUp (by assumption) (belAlloc _ _)) hb5; obtain rfl : b5 = false := (by cases b5; rfl; exact absurd (hbT hp5) (by rw [hBD.out]; exact bad1 hy.out)))
                | (go_at_call 16; (with_reducible refine atArgs #[.agg #[.slice (some ⟨bN, oN, none⟩) D.1.length cD, .slice (some ⟨bE, oE, none⟩) (D.2.length - 1) 0]] ?_); refine (DfaValid_c (.slice (some ⟨bN, oN, none⟩) D.1.length cD) (.slice (some ⟨bE, oE, none⟩) (D.2.length - 1) 0) (D.1, D.2.drop 1) _ (HR2.out.stay (kpB (by assumption)))).mono ?_; rintro e p6 ⟨b6, rfl, hb6, hp6⟩; have hc1 := belUp (w := Wn) (by first | assumption | exact belUp (by assumption) (belAlloc _ _)) hb6; obtain rfl : b6 = false := (by cases b6; rfl; exact absurd (hbT hp6) (bad2 hy.out))))
            go_wp2
            go_ret
            exact ⟨rfl, belUp HB.out hc1⟩
          · skip
            have HR2 : Hid (DfaR (fun _ => True) Wn (.slice (some ⟨bN, oN, none⟩) D.1.length cD) (.slice (some ⟨bE, oE + 1, none⟩) (D.2.length - 1) (dD - 1)) (D.1, D.2.drop 1)) := Lib.hid ⟨XD.out.r.1, by have := fl_tail XD.out.r.2 (by simp) (by omega); unfold Bools; rw [List.length_drop, List.map_drop]; exact this⟩
            clear hb0 hS hbel8
            have zD0 := XD.out.c0
            have zD1 := XD.out.c1
            have zBD0 := XT.out.c0
            have zBD1 := XT.out.c1
            go_wp2_with fail
            clear zD0 zD1 zBD0 zBD1
            have hS : Hid (∀ w', Below Wn.heap.size Wn w' → w'.cell? ⟨w1.heap.size, 0, none⟩ = some (.slice (some ⟨bN, oN, none⟩) D.1.length cD) ∧ w'.cell? ⟨w1.heap.size, 1, none⟩ = some (.slice (some ⟨bE, oE, none⟩) D.2.length dD) ∧ w'.cell? ⟨Bn, 0, none⟩ = some (.slice a8 D.1.length c8) ∧ w'.cell? ⟨Bn, 1, none⟩ = some (.slice (some ⟨bE, oE, none⟩) D.2.length dD)) := fun w' hb => ⟨(XD.out.stay hb).c0, (XD.out.stay hb).c1, (XT.out.stay hb).c0, (XT.out.stay hb).c1⟩
            have hb0 := (Below.refl Wn.heap.size Wn).drew
            go_region_held3 (fun w' => w'.cell? ⟨w1.heap.size, 0, none⟩ = some (.slice (some ⟨bN, oN, none⟩) D.1.length cD) ∧ w'.cell? ⟨w1.heap.size, 1, none⟩ = some (.slice (some ⟨bE, oE, none⟩) D.2.length dD) ∧ w'.cell? ⟨Bn, 0, none⟩ = some (.slice a8 D.1.length c8) ∧ w'.cell? ⟨Bn, 1, none⟩ = some (.slice (some ⟨bE, oE, none⟩) D.2.length dD))
              (exact hS.out _ (by assumption))
              (first
                | (go_at_call 16; (with_reducible refine atArgs #[.agg #[.slice a8 D.1.length c8, .slice (some ⟨bE, oE, none⟩) D.2.length dD]] ?_); refine ((DfaValid_c (.slice a8 D.1.length c8) (.slice (some ⟨bE, oE, none⟩) D.2.length dD) BD _ (XT.out.stay (by assumption)).r)).mono ?_; rintro e p5 ⟨b5, rfl, hb5, hp5⟩; have hc0 := belUp (w := Wn) (by first | assumption | exact belUp (by assumption) (belAlloc _ _)) hb5; obtain rfl : b5 = false := (by cases b5; rfl; exact absurd (hbT hp5) (by rw [hBD.out]; exact bad1 hy.out)))
                | (go_at_call 16; (with_reducible refine atArgs #[.agg #[.slice (some ⟨bN, oN, none⟩) D.1.length cD, .slice (some ⟨bE, oE + 1, none⟩) (D.2.length - 1) (dD - 1)]] ?_); refine (DfaValid_c (.slice (some ⟨bN, oN, none⟩) D.1.length cD) (.slice (some ⟨bE, oE + 1, none⟩) (D.2.length - 1) (dD - 1)) (D.1, D.2.drop 1) _ (HR2.out.stay (kpB (by assumption)))).mono ?_; rintro e p6 ⟨b6, rfl, hb6, hp6⟩; have hc1 := belUp (w := Wn) (by first | assumption | exact belUp (by assumption) (belAlloc _ _)) hb6; obtain rfl : b6 = false := (by cases b6; rfl; exact absurd (hbT hp6) (bad2 hy.out))))
            go_wp2
            go_ret
            exact ⟨rfl, belUp HB.out hc1⟩)
end Go.Proofs.Ytebcnamfpajneaa.fnDfaValid
