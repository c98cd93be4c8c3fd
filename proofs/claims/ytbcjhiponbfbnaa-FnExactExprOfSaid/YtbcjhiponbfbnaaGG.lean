/- The smallest automaton: the program's.
Minimize: the program's answer.
The order of exploring: the reference's.
Trimming: the reference's.
Laws of automata that are trimmed, and of the classes: no program.
Valid automata are small. No program.
Walking the statements about automata: boxes of automata, what stays in newer worlds.
Trimmed automata: the program's. -/
import Derived.Deep.RegionHeld3
import Derived.Test.YtbcjhiponbfbnaaXpl
import Derived.Test.YtbcjhiponbfbnaaSst
import Derived.Test.YtbcjhiponbfbnaaGB
import Derived.Test.YtbcjhiponbfbnaaGC
import Derived.Test.YtbcjhiponbfbnaaGA
set_option linter.unusedSimpArgs false
set_option linter.unusedVariables false
set_option linter.unusedSectionVars false
namespace Go.Proofs.Ytbcjhiponbfbnaa
open Go.RowKit
set_option maxRecDepth 100000
variable {S T : Nat → Prop}
/-- An automaton comes back, in memory of its own. -/
def RD (D : DfaD) (w : World) (e : Ending) (w' : World) : Prop :=
  ∃ v1 v2, e = .returned (.agg #[v1, v2]) ∧ Below w.heap.size w w' ∧ Hid (DfaW (fun b => w.heap.size ≤ b ∧ b < w'.heap.size) w' v1 v2 D)
set_option maxHeartbeats 400000 in
theorem minNext_c (vn ve : Value) (D : DfaD) (s c B1 B3 g : Nat) (w : World) (h : DfaR S w vn ve D) (hD : okD D) (hs : s < D.1.length) (hc : c < 3)
    (K1 : w.heap[B1]? = some (.cells #[vn, ve] 52 (0, 0))) (K3 : w.heap[B3]? = some (.cells #[.slice (some ⟨g, 0, none⟩) D.1.length D.1.length] 34 (0, 0))) (hr : RowI w g (fL D (cls D))) :
    Calls Try.prog 111 (#[.int .i64 s, .int .i64 c] ++ #[.pointer (some ⟨B3, 0, none⟩), .pointer (some ⟨B1, 0, none⟩)]) w (RIn w (· = (cn D s c : Int))) := by
  obtain ⟨c0, c1, _, _⟩ := blk2 K1
  have c3 : w.cell? ⟨B3, 0, none⟩ = some (.slice (some ⟨g, 0, none⟩) D.1.length D.1.length) := by rw [cell_of_row w B3 0 _ _ _ K3]; rfl
  obtain ⟨a, ca, b, d, rfl, rfl, hn, hm⟩ := h.shapes
  obtain ⟨bn, on, br, or_, cr, e1, hs1, hs2, hs3⟩ := h.step hD hs hc
  cases e1
  have hcc := hr.cell (i := dn D s c) (by rw [fL_len]; exact hs3)
  rw [fL_get D (cls D) hs3] at hcc
  have hsI : (s : Int) < (D.1.length : Int) := by omega
  have hcI : (c : Int) < 3 := by omega
  have huI : ((dn D s c : Nat) : Int) < (D.1.length : Int) := by omega
  have Hcn : Hid (cn D s c = cls D (dn D s c)) := rfl
  generalize cls D (dn D s c) = y at *
  generalize dn D s c = u at *
  clear h hD hr K1 K3
  go_enter Try.func111, Try.ntmps111
  go_wp2_with fail
  go_quiet (fail)
  go_wp2
  go_ret
  exact RIn.mk (belReflN _ _ _) (by rw [Hcn.out])
theorem body_minNext : HasBody 111 := by
  intro args w
  kernel_rfl
theorem minEnds_c (vn ve : Value) (D : DfaD) (s B1 : Nat) (w : World) (h : DfaR S w vn ve D) (hD : okD D) (hs : s < D.1.length) (K1 : w.heap[B1]? = some (.cells #[vn, ve] 52 (0, 0))) :
    Calls Try.prog 112 (#[.int .i64 s] ++ #[.pointer (some ⟨B1, 0, none⟩)]) w (RB w (de D s = true)) := by
  obtain ⟨c0, c1, _, _⟩ := blk2 K1
  obtain ⟨a, ca, b, d, rfl, rfl, hn, hm⟩ := h.shapes
  obtain ⟨be, oe, rfl, he⟩ := h.mark hD hs
  have hsI : (s : Int) < (D.2.length : Int) := by rw [hD.2.1]; omega
  have hsn : s < D.2.length := by rw [hD.2.1]; omega
  generalize de D s = x at *
  clear h hD K1
  go_enter Try.func112, Try.ntmps112
  go_wp2
  go_ret
  exact RB.mk Iff.rfl
theorem body_minEnds : HasBody 112 := by
  intro args w
  kernel_rfl
set_option maxHeartbeats 4000000 in
theorem minimize_c (vn ve : Value) (D : DfaD) (w : World) (h : DfaR S w vn ve D) (hD : okD D) : Calls Try.prog 69 #[.agg #[vn, ve]] w (RD (canon (lgD D)) w) := by
  obtain ⟨a, ca, b, d, rfl, rfl, hn, hm⟩ := h.shapes
  have HD := Lib.hid hD
  have hn40 : D.1.length ≤ 40 := hD.1.2
  have hn1 : 1 ≤ D.1.length := hD.1.1
  clear hD
  obtain ⟨W, hW⟩ : ∃ W, W = (w.alloc (.cells #[.slice a D.1.length ca, .slice b D.2.length d] 52)).alloc (.cells #[.slice none 0 0, .slice none 0 0] 52) := ⟨_, rfl⟩
  have Hb0 : Hid (Below w.heap.size w W) := by rw [hW]; exact ((Below.refl _ _).alloc (Nat.le_refl _) _).alloc (by simp) _
  have K0 : Hid (W.heap[w.heap.size]? = some (.cells #[.slice a D.1.length ca, .slice b D.2.length d] 52 (0, 0))) := by rw [hW]; exact blkOld (blkNew _ _ rfl)
  have K1 : Hid (W.heap[w.heap.size + 1]? = some (.cells #[.slice none 0 0, .slice none 0 0] 52 (0, 0))) := by rw [hW]; exact blkNew _ _ (by simp)
  have Hz : Hid (W.heap.size = w.heap.size + 2) := by rw [hW]; simp [Hid]
  have H := Lib.hid (h.stay (kpB Hb0.out)); clear h
  have HW := Lib.hid hW; clear hW
  obtain ⟨c0, c1, _, _⟩ := blk2 K0.out
  go_enter Try.func69, Try.ntmps69
  rw [HW.out] at c0 c1
  go_wp2_with fail
  rw [← HW.out]
  refine (sameStates_c _ _ D W H.out HD.out).mono ?_
  rintro e w1 ⟨v, rfl, hb1, hv⟩
  obtain ⟨g, rfl, hg, hr⟩ := hv.out
  clear c0 c1
  go_wp2_with fail
  obtain ⟨w2, hw2⟩ : ∃ w2, w2 = w1.alloc (.cells #[.slice (some ⟨g, 0, none⟩) D.1.length D.1.length] 34) := ⟨_, rfl⟩
  rw [← hw2]
  have hb2 : Below w1.heap.size w1 w2 := by rw [hw2]; exact (Below.refl _ _).alloc (Nat.le_refl _) _
  have K3 : w2.heap[w1.heap.size]? = some (.cells #[.slice (some ⟨g, 0, none⟩) D.1.length D.1.length] 34 (0, 0)) := by rw [hw2]; exact blkNew _ _ rfl
  have hbW : Below W.heap.size W w2 := hb1.trans (hb2.mono hb1.size)
  have K0' := blkBel hbW K0.out
  have K1' := blkBel hbW K1.out
  have hr' := hr.stay hb2
  have H' := H.out.stay (kpB hbW)
  obtain ⟨B3, hB3⟩ : ∃ B3, B3 = w1.heap.size := ⟨_, rfl⟩
  rw [← hB3] at K3 ⊢
  have h32 : B3 < w2.heap.size := (Array.getElem?_eq_some_iff.1 K3).1
  have HCall : Hid (∀ w', Below w2.heap.size w2 w' → Calls Try.prog 110 #[.int .i64 0, .int .i64 D.1.length, .func (.func 111) #[] #[.pointer (some ⟨B3, 0, none⟩), .pointer (some ⟨w.heap.size, 0, none⟩)], .func (.func 112) #[] #[.pointer (some ⟨w.heap.size, 0, none⟩)]] w'
      (XP (fun s : Nat => .int .i64 s) (fun s : Nat => [.int .i64 s]) 3 1 (cn D) (de D) 0 D.1.length w')) := fun w' hb' =>
    exploredInt_c (P := fun s => s < D.1.length) (cn D) (de D) 0 D.1.length _ _ _ _ w' hn1 (fun s hs c hc => cn_lt D HD.out hs hc) (fun s hs => by omega) ⟨hn1, by omega⟩ body_minNext body_minEnds
      (fun s c w3 hs hc hb3 => minNext_c _ _ D s c _ _ g w3 ((H'.stay (kpB hb')).stay (kpB hb3)) HD.out hs hc (blkBel hb3 (blkBel hb' K0')) (blkBel hb3 (blkBel hb' K3)) ((hr'.stay hb').stay hb3))
      (fun s w3 hs hb3 => minEnds_c _ _ D s _ w3 ((H'.stay (kpB hb')).stay (kpB hb3)) HD.out hs (blkBel hb3 (blkBel hb' K0')))
  have HS : Hid (∀ w', Below w2.heap.size w2 w' → w'.cell? ⟨B3, 0, none⟩ = some (.slice (some ⟨g, 0, none⟩) D.1.length D.1.length) ∧ w'.cell? ⟨g, 0, none⟩ = some (.int .i64 0) ∧ w'.cell? ⟨w.heap.size, 0, none⟩ = some (.slice a D.1.length ca)) := fun w' hb' => by
    refine ⟨by rw [cell_of_row w' B3 0 _ _ _ (blkBel hb' K3)]; rfl, ?_, (blk2 (blkBel hb' K0')).1⟩
    have := (hr'.stay hb').cell (i := 0) (by rw [fL_len]; omega)
    rw [fL_get D (cls D) (by omega), cls_zero] at this
    exact this
  have bD : Below w2.heap.size w2 w2.drew := (Below.refl _ _).drew
  have bA : Below w2.heap.size w2 (w2.alloc (.cells #[.slice none 0 0, .slice none 0 0] 52)).drew := ((Below.refl _ _).alloc (Nat.le_refl _) _).drew
  have kA : (w2.alloc (.cells #[.slice none 0 0, .slice none 0 0] 52)).drew.heap[w2.heap.size]? = some (.cells #[.slice none 0 0, .slice none 0 0] 52 (0, 0)) := blkNew _ _ rfl
  have hover : ∀ k, D.1.length < (rnd (cn D) 0 k).length → False := fun k hk => by
    have := rnd_len_le (nx := cn D) (s0 := 0) (n := D.1.length) (by omega) (fun s hs => ⟨cn_lt D HD.out hs (by omega), cn_lt D HD.out hs (by omega), cn_lt D HD.out hs (by omega)⟩) k
    omega
  have Hov := Lib.hid hover
  clear hover
  have HbT := Lib.hid (Hb0.out.trans (hbW.mono Hb0.out.size))
  have hnI : (0 : Int) < (D.1.length : Int) := by omega
  have hn0 : 0 < D.1.length := by omega
  obtain ⟨C, hC⟩ : ∃ C, C = canon (lgD D) := ⟨_, rfl⟩
  rw [← hC]
  have HC := Lib.hid hC
  have K1' := Lib.hid K1'
  clear hC hr hr' H' K0' K3 hb2 hw2 hbW hb1 hg hB3
  go_region_held3 (fun w' => w'.cell? ⟨B3, 0, none⟩ = some (.slice (some ⟨g, 0, none⟩) D.1.length D.1.length) ∧ w'.cell? ⟨g, 0, none⟩ = some (.int .i64 0) ∧ w'.cell? ⟨w.heap.size, 0, none⟩ = some (.slice a D.1.length ca))
    (first | (exact HS.out _ bD) | (exact HS.out _ bA) | (exact HS.out _ (bD.trans (hb4.mono bD.size))) | (exact HS.out _ (bA.trans (hb4.mono bA.size))) | (exact HS.out _ ((bD.trans (hb4.mono bD.size)).alloc (Nat.le_trans bD.size hb4.size) _)) | (exact HS.out _ (((bA.trans (hb4.mono bA.size)).setCell (p := ⟨w2.heap.size, 0, none⟩) (Nat.le_refl _) _).setCell (p := ⟨w2.heap.size, 1, none⟩) (Nat.le_refl _) _)))
    (first | (go_at_call 110
              refine (HCall.out _ bA).mono ?_
              rintro e w4 ⟨v1, v2, v3, ok, rfl, hb4, hx⟩
              have hx2 := hx.out.resolve_right (fun ⟨_, _, _, _, k, hk⟩ => Hov.out k hk)
              obtain ⟨rfl, k, hk1, hk2, hd, _⟩ := hx2
              rw [canon_cn D HD.out (by omega) (by omega), ← HC.out] at hd
              obtain ⟨an, cn', bn, cb, rfl, rfl, _, _⟩ := hd.rd.shapes
              obtain ⟨d0, d1, g0, g1⟩ := blk2 (blkBel hb4 kA))
           | (go_at_call 110
              refine (HCall.out _ bD).mono ?_
              rintro e w4 ⟨v1, v2, v3, ok, rfl, hb4, hx⟩
              have hx2 := hx.out.resolve_right (fun ⟨_, _, _, _, k, hk⟩ => Hov.out k hk)
              obtain ⟨rfl, k, hk1, hk2, hd, _⟩ := hx2
              rw [canon_cn D HD.out (by omega) (by omega), ← HC.out] at hd
              obtain ⟨an, cn', bn, cb, rfl, rfl, _, _⟩ := hd.rd.shapes))
  all_goals (
    first
    | (change Exit.then _ _ Exit.normal _ (w4.alloc _)
       have bf : Below w2.heap.size w2 (w4.alloc (.cells #[.slice an C.1.length cn', .slice bn C.2.length cb] 52)) := (bD.trans (hb4.mono bD.size)).alloc (Nat.le_trans bD.size hb4.size) _
       have kf : (w4.alloc (.cells #[.slice an C.1.length cn', .slice bn C.2.length cb] 52)).heap[w4.heap.size]? = some (.cells #[.slice an C.1.length cn', .slice bn C.2.length cb] 52 (0, 0)) := blkNew _ _ rfl
       have hdf : Hid (DfaW (fun b => w2.heap.size ≤ b ∧ b < (w4.alloc (.cells #[.slice an C.1.length cn', .slice bn C.2.length cb] 52)).heap.size) (w4.alloc (.cells #[.slice an C.1.length cn', .slice bn C.2.length cb] 52)) (.slice an C.1.length cn') (.slice bn C.2.length cb) C) :=
         (hd.stay (ksB ((Below.refl _ _).alloc (Nat.le_refl _) _))).mono (fun b hb => ⟨Nat.le_trans bD.size hb.1, by rw [World.size_alloc]; omega⟩)
       have hne : w4.heap.size ≠ w.heap.size + 1 := by have := (Array.getElem?_eq_some_iff.1 (blkBel (bD.trans (hb4.mono bD.size)) K1'.out)).1; omega
       generalize w4.alloc (.cells #[.slice an C.1.length cn', .slice bn C.2.length cb] 52) = wf at *
       generalize w4.heap.size = B4 at *)
    | (have bf : Below w2.heap.size w2 ((w4.setCell ⟨w2.heap.size, 0, none⟩ (.slice an C.1.length cn')).setCell ⟨w2.heap.size, 1, none⟩ (.slice bn C.2.length cb)) := ((bA.trans (hb4.mono bA.size)).setCell (p := ⟨w2.heap.size, 0, none⟩) (Nat.le_refl _) _).setCell (p := ⟨w2.heap.size, 1, none⟩) (Nat.le_refl _) _
       have kf : ((w4.setCell ⟨w2.heap.size, 0, none⟩ (.slice an C.1.length cn')).setCell ⟨w2.heap.size, 1, none⟩ (.slice bn C.2.length cb)).heap[w2.heap.size]? = some (.cells #[.slice an C.1.length cn', .slice bn C.2.length cb] 52 (0, 0)) := by
         rw [heap_set (heap_set (blkBel hb4 kA) 0 (.slice an C.1.length cn')) 1 (.slice bn C.2.length cb)]; rfl
       have hdf : Hid (DfaW (fun b => w2.heap.size ≤ b ∧ b < ((w4.setCell ⟨w2.heap.size, 0, none⟩ (.slice an C.1.length cn')).setCell ⟨w2.heap.size, 1, none⟩ (.slice bn C.2.length cb)).heap.size) ((w4.setCell ⟨w2.heap.size, 0, none⟩ (.slice an C.1.length cn')).setCell ⟨w2.heap.size, 1, none⟩ (.slice bn C.2.length cb)) (.slice an C.1.length cn') (.slice bn C.2.length cb) C) := by
         refine (hd.stay (fun b hb _ => ?_)).mono (fun b hb => ⟨Nat.le_trans bA.size hb.1, by simpa [World.setCell] using hb.2⟩)
         have hne : b ≠ w2.heap.size := by
           have := hb.1
           have hz : (w2.alloc (.cells #[.slice none 0 0, .slice none 0 0] 52)).drew.heap.size = w2.heap.size + 1 := World.size_alloc _ _
           omega
         rw [Below.heap_setCell _ _ _ _ hne, Below.heap_setCell _ _ _ _ hne]
       have hne : w2.heap.size ≠ w.heap.size + 1 := by have := (Array.getElem?_eq_some_iff.1 K1'.out).1; omega
       generalize (w4.setCell ⟨w2.heap.size, 0, none⟩ (.slice an C.1.length cn')).setCell ⟨w2.heap.size, 1, none⟩ (.slice bn C.2.length cb) = wf at *))
  all_goals (
    have hbw := HbT.out.trans (bf.mono HbT.out.size)
    have k1f := blkBel bf K1'.out
    obtain ⟨e0, e1, _, _⟩ := blk2 kf
    obtain ⟨z0, z1, y0, y1⟩ := blk2 k1f
    have hlt1 := (Array.getElem?_eq_some_iff.1 K1'.out).1
    have hsz := bf.size
    have hwz := HbT.out.size
    clear hd hb4 kf k1f bf H
    go_wp2
    have f0 := cell_setOther (o := 1) (u := .slice bn C.2.length cb) (cell_setSame (u := .slice an C.1.length cn') z0) (by omega)
    have f1 := cell_setSame (u := .slice bn C.2.length cb) (cell_setOther (o := 0) (u := .slice an C.1.length cn') z1 (by omega))
    refine bodyPost_ret (v := .agg #[.slice an C.1.length cn', .slice bn C.2.length cb]) (by simp [results, Try.results69, go_sem, f0, f1]) rfl
      ⟨_, _, rfl, (hbw.setCell (by simp) _).setCell (by simp) _, ?_⟩
    rw [← HC.out]
    refine (hdf.out.stay (fun b hb _ => ?_)).mono (fun b hb => ⟨by omega, by simpa [World.setCell] using hb.2⟩)
    have hnb : b ≠ w.heap.size + 1 := by omega
    rw [Below.heap_setCell _ _ _ _ hnb, Below.heap_setCell _ _ _ _ hnb])
end Go.Proofs.Ytbcjhiponbfbnaa
namespace Go.Proofs.Ytbcjhiponbfbnaa
open Go.RowKit
set_option maxRecDepth 100000
variable {S T : Nat → Prop}
open Classical in
/-- The automaton D where p holds, else the empty one. -/
noncomputable def orNo (p : Prop) (D : DfaD) : DfaD := if p then D else ([], [])
theorem orNo_pos {p : Prop} (h : p) (D : DfaD) : orNo p D = D := if_pos h
theorem orNo_neg {p : Prop} (h : ¬ p) (D : DfaD) : orNo p D = ([], []) := if_neg h
/-- The empty automaton reads from nil. -/
theorem dfaNil {S : Nat → Prop} {w : World} {q : Nat} (hq : S q) (ho : ∃ o, S o ∧ o ≠ q) : DfaW S w (.slice none 0 0) (.slice none 0 0) ([], []) := by
  obtain ⟨o, ho, hne⟩ := ho
  have hf : ∀ {P : Nat → Prop}, FlW P w (.slice none 0 0) 0 [] := ⟨none, 0, rfl, ⟨Nat.zero_le _, Nat.le_refl _, fun _ => rfl⟩, fun i hi => absurd hi (Nat.not_lt_zero _)⟩
  exact ⟨q, hq, ⟨o, fun _ => 0, fun _ => undef, ⟨ho, hne⟩, hf, fun i hi => absurd hi (Nat.not_lt_zero _), fun i j _ hj => absurd hj (Nat.not_lt_zero _)⟩, hf⟩
/-- The result's two cells are written. -/
theorem RD.fin {w wr : World} {B : Nat} {C : DfaD} {v1 v2 : Value} (hb : Below w.heap.size w wr) (hB : w.heap.size ≤ B) (hd : DfaW (fun b => (w.heap.size ≤ b ∧ b < wr.heap.size) ∧ b ≠ B) wr v1 v2 C) :
    RD C w (.returned (.agg #[v1, v2])) ((wr.setCell ⟨B, 0, none⟩ v1).setCell ⟨B, 1, none⟩ v2) := by
  refine ⟨_, _, rfl, (hb.setCell hB _).setCell hB _, (hd.stay (fun b hb _ => ?_)).mono (fun b hb => by simpa [World.setCell] using hb.1)⟩
  rw [Below.heap_setCell _ _ _ _ hb.2, Below.heap_setCell _ _ _ _ hb.2]
theorem RD.nil {w wr : World} (hb : Below w.heap.size w wr) (hz : w.heap.size + 2 ≤ wr.heap.size) :
    RD ([], []) w (.returned (.agg #[.slice none 0 0, .slice none 0 0])) ((wr.setCell ⟨w.heap.size + 1, 0, none⟩ (.slice none 0 0)).setCell ⟨w.heap.size + 1, 1, none⟩ (.slice none 0 0)) := by
  refine ⟨_, _, rfl, (hb.setCell (by simp) _).setCell (by simp) _, dfaNil (q := w.heap.size) ⟨Nat.le_refl _, ?_⟩ ⟨w.heap.size + 1, ⟨by omega, ?_⟩, by omega⟩⟩
  · simp [World.setCell]; omega
  · simp [World.setCell]; omega
end Go.Proofs.Ytbcjhiponbfbnaa
namespace Go.Proofs.Ytbcjhiponbfbnaa
open Go.RowKit
set_option maxRecDepth 100000
variable {S T : Nat → Prop}
set_option maxHeartbeats 400000 in
theorem l7Name_c (v : Value) (xs : List Int) (x : Int) (k : Nat) (w : World) (h : Ints S w v xs) (hk : k < xs.length) (hx : xs[k] = x) (hm : ∀ j (hj : j < k), xs[j] ≠ x) :
    Calls Try.prog 141 #[v, .int .i64 x] w (fun e w' => e = .returned (.int .i64 k) ∧ w' = w) := by
  obtain ⟨a, cap, rfl, hn⟩ := h.shape
  have H := Lib.hid h; clear h
  have HX := Lib.hid hx; clear hx
  have HM := Lib.hid hm; clear hm
  go_enter Try.func141, Try.ntmps141
  go_wp2
  go_loop [5] (fun i => ∃ j : Nat, j ≤ k ∧ i = .int .i64 j) (fun i => xs.length - (intOf i).toNat)
  case atStart => exact ⟨0, by omega, rfl⟩
  case round =>
    obtain ⟨j, hj, rfl⟩ := hrel
    obtain ⟨b, off, rfl, hc⟩ := H.out.at (k := j) (by omega)
    have hjI : (j : Int) < (xs.length : Int) := by omega
    rcases Nat.lt_or_ge j k with hlt | hge
    · have hne : (xs[j]'(by omega) == x) = false := by
        have := HM.out j hlt
        simpa using this
      have hjl : j < xs.length := by omega
      generalize xs[j]'(by omega) = y at *
      go_wp2
      go_round
      case rel => exact ⟨j + 1, by omega, by go_num⟩
      case measure => simp [intOf]; omega
    · obtain rfl : j = k := by omega
      have he : (xs[j]'(by omega) == x) = true := by rw [HX.out]; simp
      have hjl : j < xs.length := by omega
      generalize xs[j]'(by omega) = y at *
      go_wp2
      go_ret
      exact ⟨rfl, rfl⟩
/-- Which states are met. -/
def sn (n : Nat) (M : List Nat) : List Bool := (List.range n).map fun s => decide (s ∈ M)
theorem sn_len (n : Nat) (M : List Nat) : (sn n M).length = n := by simp [sn]
theorem sn_get {n : Nat} {M : List Nat} {t : Nat} (h : t < n) : (sn n M)[t]'(by rw [sn_len]; exact h) = decide (t ∈ M) := by simp [sn]
theorem sn_set (n : Nat) (M : List Nat) (t : Nat) : (sn n M).set t true = sn n (M ++ [t]) := by
  apply List.ext_getElem
  · simp [sn]
  · intro i h1 h2
    rw [List.getElem_set]
    simp only [sn, List.getElem_map, List.getElem_range, List.mem_append, List.mem_singleton]
    by_cases e : t = i
    · subst e; simp
    · rw [if_neg e]
      have : ¬ i = t := fun h => e h.symm
      simp [this]
theorem sn_nil (n : Nat) : sn n [] = List.replicate n false := by
  apply List.ext_getElem <;> simp [sn]
set_option maxHeartbeats 4000000 in
theorem l7Order_c (vn ve : Value) (D : DfaD) (w : World) (h : DfaR S w vn ve D) (hD : okD D) :
    Calls Try.prog 140 #[.agg #[vn, ve]] w (RVn w fun v w' => ∃ k, (rnd (dn D) 0 k).length = k ∧ k ≤ D.1.length ∧ w'.ownsRow w.heap.size 3 1 v k ((rnd (dn D) 0 k).map fun s : Nat => .int .i64 s)) := by
  obtain ⟨a, c, b, d, rfl, rfl, hn, hm⟩ := (h).shapes
  obtain ⟨W, hW⟩ : ∃ W, W = w.alloc (.cells #[.slice a D.1.length c, .slice b D.2.length d] 52) := ⟨_, rfl⟩
  have Hb0 : Hid (Below w.heap.size w W) := by rw [hW]; exact (Below.refl _ _).alloc (Nat.le_refl _) _
  have c0 : W.cell? ⟨w.heap.size, 0, none⟩ = some (.slice a D.1.length c) := by rw [hW, World.cell?_alloc_mark]; rfl
  have c1 : W.cell? ⟨w.heap.size, 1, none⟩ = some (.slice b D.2.length d) := by rw [hW, World.cell?_alloc_mark]; rfl
  have K0 : Hid (W.heap[w.heap.size]? = some (.cells #[.slice a D.1.length c, .slice b D.2.length d] 52 (0, 0))) := by rw [hW]; exact blkNew _ _ rfl
  have Hz : Hid (W.heap.size = w.heap.size + 1) := by rw [hW]; simp [Hid]
  have H := Lib.hid ((h).stay (kpB Hb0.out)); clear h
  have HW := Lib.hid hW; clear hW
  have HD := Lib.hid hD
  have hn40 : D.1.length ≤ 40 := hD.1.2
  have hn1 : 1 ≤ D.1.length := hD.1.1
  clear hD
  rw [HW.out] at c0 c1
  go_enter Try.func140, Try.ntmps140
  go_wp2_with (
    (at_make; refine makeRow ezBool (by decide) rfl (.tmp 11) (.tmp 11) rfl D.1.length _ rfl rfl (by omega) ?_)
    rw [← HW.out]
    intro w1 hr1 hb1 hz1
    have hcc := hr1.out.cell (i := 0) (by simp; omega)
    obtain ⟨u, hu⟩ : ∃ u, w1.cell? ⟨(W.alloc (.cells #[.int .i64 0] 3)).heap.size, 0, none⟩ = some u := ⟨_, hcc⟩
    have hfz := hr1.out.fz 0
    rw [World.size_alloc] at hu hfz
    have hn0 : 0 < D.1.length := by omega)
  clear c0 c1 hcc hu hfz
  have hr2 := hr1.out.set 0 true
  rw [World.size_alloc] at hr2
  rw [← sn_nil, sn_set] at hr2
  have ho1 : (W.alloc (.cells #[.int .i64 0] 3)).ownsRow W.heap.size 3 1 (.slice (some ⟨W.heap.size, 0, none⟩) 1 1) 1 [.int .i64 0] := ownLit [.int .i64 0] (Nat.le_refl _) (by omega) rfl
  have hbW : Below W.heap.size W (W.alloc (.cells #[.int .i64 0] 3)) := (Below.refl _ _).alloc (Nat.le_refl _) _
  have hbw := (hbW.trans (hb1.mono hbW.size)).setCell (p := ⟨W.heap.size + 1, 0, none⟩) (by simp) (.bool true)
  have ho3 := Lib.hid ((ownStay ho1 hb1).kept (grownSet w1 (W.heap.size + 1) 0 (.bool true)) (.inr (by simp [Value.ownBlock])))
  have hr3 : Hid (RowB (w1.setCell ⟨W.heap.size + 1, 0, none⟩ (.bool true)) (W.heap.size + 1) (sn D.1.length [0])) := hr2
  rw [← Hz.out]
  clear ho1 hbW hr2 hr1 hb1 hz1
  generalize w1.setCell ⟨W.heap.size + 1, 0, none⟩ (.bool true) = w2 at *
  obtain ⟨G, hG⟩ : ∃ G, G = W.heap.size + 1 := ⟨_, rfl⟩
  have hGW : W.heap.size ≤ G := by omega
  rw [← hG] at hr3 ⊢
  clear hG
  go_loopw [3, 5] (fun m i wr => ∃ k : Nat, k ≤ (rnd (dn D) 0 k).length ∧ i = .int .i64 k ∧ Below W.heap.size W wr ∧ Hid (wr.ownsRow W.heap.size 3 1 m (rnd (dn D) 0 k).length ((rnd (dn D) 0 k).map fun s : Nat => .int .i64 s)) ∧ Hid (RowB wr G (sn D.1.length (rnd (dn D) 0 k)))) (fun _ i _ => D.1.length - (intOf i).toNat)
  case atStart => exact ⟨0, by simp, rfl, hbw, ho3, hr3⟩
  case round =>
    clear hbw ho3 hr3
    obtain ⟨k, hk, rfl, hb, ho, hr⟩ := hrel
    have hle := rnd_len_le (nx := dn D) (s0 := 0) (n := D.1.length) (by omega) (dn_lt3 HD.out) k
    have HPM := Lib.hid (rnd_all (dn D) (P := (· < D.1.length)) (s0 := 0) (by omega) (dn_lt3 HD.out) k)
    obtain ⟨am, capm, rfl, _⟩ := (ownFl ho.out).shape
    by_cases hlt : k < (rnd (dn D) 0 k).length
    · have Hsucc := Lib.hid (rnd_succ_some (dn D) hlt)
      obtain ⟨s, hs⟩ : ∃ s, s = (rnd (dn D) 0 k)[k] := ⟨_, rfl⟩
      have Hs := Lib.hid (show (rnd (dn D) 0 k)[k]? = some s by rw [hs]; exact List.getElem?_eq_getElem hlt)
      have hsn : s < D.1.length := by rw [hs]; exact HPM.out _ (List.getElem_mem _)
      rw [← hs] at Hsucc
      clear hs
      obtain ⟨M, hM⟩ : ∃ M, M = rnd (dn D) 0 k := ⟨_, rfl⟩
      have HM := Lib.hid hM
      rw [← hM] at hlt hle ho hr HPM Hsucc Hs ⊢
      clear hM hk
      go_wp2_with fail
      go_loopw [3, 6] (fun m i wr => ∃ c : Nat, c ≤ 3 ∧ i = .int .i64 c ∧ Below W.heap.size W wr ∧ Hid (wr.ownsRow W.heap.size 3 1 m (visN (dn D) M s c).length ((visN (dn D) M s c).map fun s : Nat => .int .i64 s)) ∧ Hid (RowB wr G (sn D.1.length (visN (dn D) M s c)))) (fun _ i _ => 3 - (intOf i).toNat)
      case atStart => exact ⟨0, by omega, rfl, hb, ho, hr⟩
      case round =>
        clear hb ho hr
        obtain ⟨c, hc, rfl, hb, ho, hr⟩ := hrel
        have Hpre : Hid (M <+: visN (dn D) M s c) := visN_pre (dn D) M s (Nat.zero_le c)
        have hlen : M.length ≤ (visN (dn D) M s c).length := Hpre.out.length_le
        obtain ⟨am2, capm2, rfl, hml⟩ := (ownFl ho.out).shape
        have Hsuc : Hid (visN (dn D) M s (c + 1) = vis (visN (dn D) M s c) (dn D s c)) := rfl
        by_cases hc3 : c < 3
        · have hl40 : Hid ((visN (dn D) M s c).length ≤ D.1.length) := by
            have := (visN_pre (dn D) M s (show c ≤ 3 by omega)).length_le
            rw [visN_three, ← Hsucc.out] at this
            exact Nat.le_trans this (rnd_len_le (nx := dn D) (s0 := 0) (n := D.1.length) (by omega) (dn_lt3 HD.out) (k + 1))
          obtain ⟨M2, hM2⟩ : ∃ M2, M2 = visN (dn D) M s c := ⟨_, rfl⟩
          rw [← hM2] at ho hr Hpre hlen hml Hsuc hl40 ⊢
          clear hM2
          obtain ⟨bn, on, br, or_, cr, e1, hs1, hs2, hs3⟩ := (H.out.stay (kpB hb)).step HD.out hsn hc3
          obtain ⟨c0, c1, _, _⟩ := blk2 (blkBel hb K0.out)
          cases e1
          have hkM2 : k < M2.length := by omega
          have hst : M2[k]? = some s := by
            obtain ⟨r, hr⟩ := Hpre.out
            rw [← hr, List.getElem?_append_left hlt]; exact Hs.out
          rw [List.getElem?_eq_getElem hkM2] at hst
          injection hst with hst
          obtain ⟨bm, om, rfl, hcell⟩ := Fl.at (ownFl ho.out).fl (i := k) (by simp; omega)
          rw [List.getElem_map, hst] at hcell
          clear hst
          have hkI : (k : Int) < (M2.length : Int) := by omega
          have hsI : (s : Int) < (D.1.length : Int) := by omega
          have hcI : (c : Int) < 3 := by omega
          obtain ⟨t, ht⟩ : ∃ t, t = dn D s c := ⟨_, rfl⟩
          rw [← ht] at hs2 hs3 Hsuc
          clear ht
          have htI : (t : Int) < (D.1.length : Int) := by omega
          have hcc := hr.out.cell (i := t) (by rw [sn_len]; exact hs3)
          rw [sn_get hs3] at hcc
          have hfz := hr.out.fz t
          by_cases hmem : t ∈ M2
          · have hd : decide (t ∈ M2) = true := decide_eq_true hmem
            rw [hd] at hcc
            have Hv : Hid (vis M2 t = M2) := vis_old hmem
            clear hd hmem
            go_wp2_with fail
            go_quiet (fail)
            go_wp2
            go_roundw
            case rel => exact ⟨c + 1, by omega, by go_num, belDrewN hb _, by rw [Hsuc.out, Hv.out]; exact ho, by rw [Hsuc.out, Hv.out]; exact hr⟩
            case measure => simp [intOf]; omega
          · have hd : decide (t ∈ M2) = false := decide_eq_false hmem
            rw [hd] at hcc
            have Hv : Hid (vis M2 t = M2 ++ [t]) := vis_new hmem
            clear hd hmem
            go_wp2_with fail
            go_quiet (fail)
            have hb2 : Below W.heap.size W (wr.drewN nq) := belDrewN hb _
            have ho2 : Hid ((wr.drewN nq).ownsRow _ _ _ _ _ _) := ho.out
            have hr2 : Hid (RowB (wr.drewN nq) G (sn D.1.length M2)) := hr.out
            have hcc2 : (wr.drewN nq).cell? ⟨G, t, none⟩ = some (.bool false) := hcc
            have hfz2 : (wr.drewN nq).frozen? ⟨G, t, none⟩ = false := hfz
            clear hb ho hr hcc hfz hcell hs1 hs2 c0 c1
            generalize wr.drewN nq = w5 at *
            have hb3 := hb2.setCell (p := ⟨G, t, none⟩) hGW (.bool true)
            have ho3 := Lib.hid (ho2.out.kept (grownSet w5 G t (.bool true)) (.inr (own_cells ho2.out hr2.out (by decide)).symm))
            have hr3 := hr2.out.set t true
            rw [sn_set] at hr3
            have Hr3 := Lib.hid hr3
            clear hr3
            obtain ⟨w6, hw6⟩ : ∃ w6, w6 = w5.setCell ⟨G, t, none⟩ (.bool true) := ⟨_, rfl⟩
            rw [← hw6] at hb3 ho3 Hr3
            have HW6 := Lib.hid hw6
            clear hw6 ho2 hr2 hb2
            go_wp2_with (
              rw [← HW6.out]
              refine appAt elInt (by decide) rfl (.tmp 44) (.tmp 46) rfl W.heap.size _ _ _ [.int .i64 ((t : Nat) : Int)] w6 (B := w6.heap.size) rfl rfl (by rw [HW6.out]; simp [World.setCell]; rfl) ho3.out rfl (by simp [Value.oneCell']) (by have := hl40.out; omega) hb3.size ?_
              intro v7 w7 ho7 hg7 hat7)
            have hb8 := hb3.grown hg7 hb3.size (fun b hb => (own_ge ho3.out b hb).1)
            have Hr8 := Lib.hid (Hr3.out.grow hg7 (own_cells ho3.out Hr3.out (by decide)))
            go_roundw
            case rel => exact ⟨c + 1, by omega, by go_num, hb8, by rw [Hsuc.out, Hv.out, List.length_append, List.map_append]; exact ho7.out, by rw [Hsuc.out, Hv.out]; exact Hr8⟩
            case measure => simp [intOf]; omega
        · obtain rfl : c = 3 := by omega
          rw [visN_three, ← Hsucc.out] at ho hr hlen hml ⊢
          have hkk : k < (rnd (dn D) 0 (k + 1)).length := by omega
          clear Hpre Hsuc HM
          go_wp2
          go_roundw
          case rel => exact ⟨k + 1, by omega, by go_num, hb, ho, hr⟩
          case measure => simp [intOf]; omega
    · have hkk : (rnd (dn D) 0 k).length = k := by omega
      rw [hkk] at ho hle ⊢
      have hnk : ¬ ((k : Int) < (k : Int)) := by omega
      have hfin := Lib.hid (ownBase ho.out Hb0.out.size)
      have hB := Hb0.out.trans (hb.mono Hb0.out.size)
      clear ho hr hlt hk
      go_wp2
      go_ret
      exact RVn.mk hB ⟨k, hkk, hle, hfin.out⟩
end Go.Proofs.Ytbcjhiponbfbnaa
namespace Go.Proofs.Ytbcjhiponbfbnaa
open Go.RowKit
set_option maxRecDepth 100000
variable {S T : Nat → Prop}
/-- The automaton of the states that can be reached. -/
def trimD (D : DfaD) : DfaD := autD (dn D) (de D) (rnd (dn D) 0 D.1.length)
/-- One row of it. -/
def rowA (D : DfaD) (M : List Nat) (s c : Nat) : Int := ((M.idxOf (dn D s c) : Nat) : Int)
def rowL (D : DfaD) (M : List Nat) (s m : Nat) : List Int := (List.range m).map (rowA D M s)
theorem rowL_succ (D : DfaD) (M : List Nat) (s m : Nat) : rowL D M s (m + 1) = rowL D M s m ++ [rowA D M s m] := by simp [rowL, List.range_succ]
theorem rowL_len (D : DfaD) (M : List Nat) (s m : Nat) : (rowL D M s m).length = m := by simp [rowL]
theorem trim_rows (D : DfaD) (M : List Nat) : autD (dn D) (de D) M = (M.map fun s => rowL D M s 3, M.map (de D)) := rfl
theorem idx_le : ∀ {M : List Nat} {j : Nat} (h : j < M.length), M.idxOf M[j] ≤ j
  | a :: M, 0, h => by simp
  | a :: M, j + 1, h => by
    have := idx_le (M := M) (j := j) (by simpa using h)
    rw [List.idxOf_cons, List.getElem_cons_succ]
    cases a == M[j]'(by simpa using h) <;> simp [cond] <;> omega
theorem idx_least {M : List Nat} {t : Nat} (h : t ∈ M) : ∃ hk : M.idxOf t < (M.map fun s : Nat => (s : Int)).length, (M.map fun s : Nat => (s : Int))[M.idxOf t] = (t : Int) ∧ ∀ j (hj : j < M.idxOf t), (M.map fun s : Nat => (s : Int))[j]'(by omega) ≠ (t : Int) := by
  have h1 : M.idxOf t < M.length := List.idxOf_lt_length_of_mem h
  refine ⟨by simpa using h1, by simp [List.getElem_idxOf], fun j hj he => ?_⟩
  simp only [List.getElem_map] at he
  have he' : M[j]'(by omega) = t := by omega
  have := idx_le (M := M) (j := j) (by omega)
  rw [he'] at this
  omega
theorem trim_eq {D : DfaD} {k : Nat} (h : (rnd (dn D) 0 k).length = k) (hk : k ≤ D.1.length) : trimD D = autD (dn D) (de D) (rnd (dn D) 0 k) := by
  unfold trimD
  rw [rnd_done (dn D) (Nat.le_of_eq h) hk]
set_option maxHeartbeats 4000000 in
theorem DfaTrim_c (vn ve : Value) (D : DfaD) (w : World) (h : DfaR S w vn ve D) : Calls Try.prog 103 #[.agg #[vn, ve]] w (RD (orNo (okD D) (trimD D)) w) := by
  obtain ⟨a, ca, b, d, rfl, rfl, hn, hm⟩ := (h).shapes
  obtain ⟨W, hW⟩ : ∃ W, W = (w.alloc (.cells #[.slice a D.1.length ca, .slice b D.2.length d] 52)).alloc (.cells #[.slice none 0 0, .slice none 0 0] 52) := ⟨_, rfl⟩
  have Hb0 : Hid (Below w.heap.size w W) := by rw [hW]; exact ((Below.refl _ _).alloc (Nat.le_refl _) _).alloc (by simp) _
  have K0 : Hid (W.heap[w.heap.size]? = some (.cells #[.slice a D.1.length ca, .slice b D.2.length d] 52 (0, 0))) := by rw [hW]; exact blkOld (blkNew _ _ rfl)
  have K1 : Hid (W.heap[w.heap.size + 1]? = some (.cells #[.slice none 0 0, .slice none 0 0] 52 (0, 0))) := by rw [hW]; exact blkNew _ _ (by simp)
  have Hz : Hid (W.heap.size = w.heap.size + 2) := by rw [hW]; simp [Hid]
  have H := Lib.hid ((h).stay (kpB Hb0.out)); clear h
  have HW := Lib.hid hW; clear hW
  obtain ⟨c0, c1, _, _⟩ := blk2 K0.out
  rw [HW.out] at c0 c1
  go_enter Try.func103, Try.ntmps103
  go_wp2_with fail
  rw [← HW.out] at c0 c1 ⊢
  clear c0 c1
  refine (sDfaValid_c _ _ D W H.out).mono ?_
  rintro e w1 ⟨ok, rfl, hb1, hok⟩
  have K0' := Lib.hid (blkBel hb1 K0.out)
  have K1' := Lib.hid (blkBel hb1 K1.out)
  have H' := Lib.hid (H.out.stay (kpB hb1))
  have hbw := Lib.hid (Hb0.out.trans (hb1.mono Hb0.out.size))
  have hz1 : w.heap.size + 2 ≤ w1.heap.size := by have := hb1.size; have := Hz.out; omega
  obtain ⟨c0, c1, _, _⟩ := blk2 K0'.out
  obtain ⟨z0, z1, y0, y1⟩ := blk2 K1'.out
  clear hb1 H K0 K1 Hz Hb0 HW
  cases ok
  · have hno := Lib.hid (hbF hok)
    clear hok
    go_wp2
    have f0 := cell_setOther (o := 1) (u := .slice none 0 0) (cell_setSame (u := .slice none 0 0) z0) (by omega)
    have f1 := cell_setSame (u := .slice none 0 0) (cell_setOther (o := 0) (u := .slice none 0 0) z1 (by omega))
    refine bodyPost_ret (v := .agg #[.slice none 0 0, .slice none 0 0]) (by simp [results, Try.results103, go_sem, f0, f1]) rfl ?_
    rw [orNo_neg hno.out]
    exact RD.nil hbw.out hz1
  · have hyes := Lib.hid (hbT hok)
    have hn40 : D.1.length ≤ 40 := hyes.out.1.2
    have hn1 : 1 ≤ D.1.length := hyes.out.1.1
    clear hok
    go_wp2_with fail
    refine (l7Order_c _ _ D w1 H'.out hyes.out).mono ?_
    rintro e w2 ⟨vo, rfl, hb2, hk⟩
    obtain ⟨K, hK1, hK2, hvo⟩ := hk.out
    have hK0 : 0 < K := by rw [← hK1]; exact rnd_pos _ _ _
    have Htr := Lib.hid (trim_eq hK1 hK2)
    have Hcl := Lib.hid (rnd_closed (dn D) (Nat.le_of_eq hK1))
    have HPM := Lib.hid (rnd_all (dn D) (P := (· < D.1.length)) (s0 := 0) (by omega) (dn_lt3 hyes.out) K)
    obtain ⟨M, hM⟩ : ∃ M, M = rnd (dn D) 0 K := ⟨_, rfl⟩
    rw [← hM] at hK1 hvo Htr Hcl HPM
    clear hM hk
    have K0 := Lib.hid (blkBel hb2 K0'.out)
    have K1 := Lib.hid (blkBel hb2 K1'.out)
    have HD2 := Lib.hid (H'.out.stay (kpB hb2))
    have hbw2 := Lib.hid (hbw.out.trans (hb2.mono hbw.out.size))
    have hz2 : w.heap.size + 2 ≤ w2.heap.size := by have := hb2.size; omega
    clear H' K0' K1' hbw hb2 c0 c1 z0 z1 y0 y1 hz1
    obtain ⟨ao, capo, rfl, _⟩ := (ownFl hvo).shape
    have HO := Lib.hid hvo
    clear hvo
    obtain ⟨W4, hW4⟩ : ∃ W4, W4 = w2.alloc (.cells #[.slice none 0 0, .slice none 0 0] 52) := ⟨_, rfl⟩
    have HX : Hid (BS w2.heap.size w2 w2.heap.size [] [] (.slice none 0 0) (.slice none 0 0) W4) := by
      rw [hW4]
      exact ⟨(Below.refl _ _).alloc (Nat.le_refl _) _, by simp, Nat.le_refl _, blkNew _ _ rfl, World.ownsRow_nil _ _ _ _, World.ownsRow_nil _ _ _ _, nofun, List.nodup_nil⟩
    have HW4 := Lib.hid hW4
    clear hW4
    go_wp2_with fail
    rw [← HW4.out]
    have hMl : M.length ≤ 40 := by omega
    have HI : Hid (∀ w', Below w2.heap.size w2 w' → Ints (w1.heap.size ≤ ·) w' (.slice ao K capo) (M.map fun s : Nat => (s : Int))) := fun w' hb' => by
      have := (ownFl (ownStay HO.out hb')).fl
      unfold Ints
      rw [List.length_map, hK1, List.map_map]
      exact this
    clear HW4
    go_loopw [5] (fun i wr => ∃ (k : Nat) (rs : List (Value × List Int)) (vN vE : Value), k ≤ K ∧ i = .int .i64 k ∧ Hid (rs.map (·.2) = (M.take k).map fun s => rowL D M s 3) ∧
      Hid (BS w2.heap.size w2 w2.heap.size rs ((M.take k).map (de D)) vN vE wr)) (fun i _ => K - (intOf i).toNat)
    case atStart => exact ⟨0, [], _, _, by omega, rfl, rfl, HX⟩
    case round =>
      clear HX
      obtain ⟨k, rs, vN, vE, hk, rfl, Hrs, HX⟩ := hrel
      have Hrl : Hid (rs.length = k) := by have := congrArg List.length Hrs.out; unfold Hid; simp at this; omega
      by_cases hlt : k < K
      · obtain ⟨s, hs⟩ : ∃ s, s = M[k] := ⟨_, rfl⟩
        have Htk : Hid (M.take (k + 1) = M.take k ++ [s]) := by rw [hs]; exact List.take_succ_eq_append_getElem (by omega)
        have hsM : s ∈ M := by rw [hs]; exact List.getElem_mem _
        have Hs : Hid (M[k]? = some s) := by rw [hs]; exact List.getElem?_eq_getElem _
        have hsn : s < D.1.length := HPM.out s hsM
        have HcM := Lib.hid (Hcl.out s hsM)
        clear hs
        go_wp2_with fail
        obtain ⟨B6, hB6⟩ : ∃ B6, B6 = wr.heap.size := ⟨_, rfl⟩
        have ho6 : Hid ((wr.alloc (.cells #[] 3)).ownsRow w2.heap.size 3 1 (.slice (some ⟨B6, 0, none⟩) 0 0) 0 []) := by rw [hB6]; exact ownLit [] HX.out.size (by omega) rfl
        have HX6 := Lib.hid (HX.out.stay ((Below.refl wr.heap.size wr).alloc (Nat.le_refl _) (.cells #[] 3)))
        have Hne6 : Hid (∀ p ∈ rs, p.1.ownBlock ≠ Value.ownBlock (.slice (some ⟨B6, 0, none⟩) 0 0)) := fun p hp he => by
          obtain ⟨g, e1, hg⟩ := HX.out.lt hp
          rw [e1, hB6] at he
          simp [Value.ownBlock] at he
          omega
        rw [← hB6]
        clear hB6 HX
        generalize wr.alloc (.cells #[] 3) = w6 at *
        go_loopw [6, 7] (fun m i wr => ∃ c : Nat, c ≤ 3 ∧ i = .int .i64 c ∧ Hid (wr.ownsRow w2.heap.size 3 1 m c ((rowL D M s c).map (.int .i64 ·))) ∧ Hid (∀ p ∈ rs, p.1.ownBlock ≠ m.ownBlock) ∧
          Hid (BS w2.heap.size w2 w2.heap.size rs ((M.take k).map (de D)) vN vE wr)) (fun _ i _ => 3 - (intOf i).toNat)
        case atStart => exact ⟨0, by omega, rfl, ho6, Hne6, HX6⟩
        case round =>
          clear ho6 Hne6 HX6
          obtain ⟨c, hc, rfl, ho, hne, HX⟩ := hrel
          by_cases hc3 : c < 3
          · obtain ⟨bn, on, br, or_, cr, e1, hs1, hs2, hs3⟩ := HD2.out.step hyes.out hsn hc3
            cases e1
            have htM : dn D s c ∈ M := by
              have : c = 0 ∨ c = 1 ∨ c = 2 := by omega
              rcases this with rfl | rfl | rfl
              · exact HcM.out.1
              · exact HcM.out.2.1
              · exact HcM.out.2.2
            have Hrow : Hid (rowL D M s (c + 1) = rowL D M s c ++ [((M.idxOf (dn D s c) : Nat) : Int)]) := rowL_succ D M s c
            obtain ⟨hi1, hi2, hi3⟩ := idx_least htM
            obtain ⟨bo, oo, e1, hcell⟩ := Fl.at (ownFl HO.out).fl (i := k) (by simp; omega)
            cases e1
            have hst : (M.map fun s : Nat => Value.int .i64 s)[k]'(by simp; omega) = .int .i64 ((s : Nat) : Int) := by
              have := Hs.out
              rw [List.getElem?_eq_getElem (by omega)] at this
              injection this with this
              rw [List.getElem_map, this]
            rw [hst] at hcell
            clear hst
            have HCall : Hid (∀ w', Below w2.heap.size w2 w' → Calls Try.prog 141 #[.slice (some ⟨bo, oo, none⟩) K capo, .int .i64 ((dn D s c : Nat) : Int)] w' (fun e w'' => e = .returned (.int .i64 ((M.idxOf (dn D s c) : Nat) : Int)) ∧ w'' = w')) := fun w' hb' =>
              l7Name_c _ _ _ _ w' (HI.out w' hb') hi1 hi2 hi3
            obtain ⟨t, ht⟩ : ∃ t, t = dn D s c := ⟨_, rfl⟩
            rw [← ht] at hs2 hs3 Hrow HCall
            clear ht hi1 hi2 hi3 htM
            generalize M.idxOf t = y at *
            have HS : Hid (∀ w', Below w2.heap.size w2 w' → w'.cell? ⟨w.heap.size, 0, none⟩ = some (.slice (some ⟨bn, on, none⟩) D.1.length ca) ∧ w'.cell? ⟨bo, oo + k, none⟩ = some (.int .i64 ((s : Nat) : Int)) ∧ w'.cell? ⟨bn, on + s, none⟩ = some (.slice (some ⟨br, or_, none⟩) 3 cr) ∧ w'.cell? ⟨br, or_ + c, none⟩ = some (.int .i64 ((t : Nat) : Int))) := fun w' hb' => by
              have hk := kpB (S := fun _ => True) hb'
              exact ⟨hk _ _ trivial (blk2 K0.out).1, hk _ _ trivial hcell, hk _ _ trivial hs1, hk _ _ trivial hs2⟩
            clear hs1 hs2 hcell
            have hkI : (k : Int) < (K : Int) := by omega
            have hsI : (s : Int) < (D.1.length : Int) := by omega
            have hcI : (c : Int) < 3 := by omega
            have bD : Below w2.heap.size w2 wr.drew := HX.out.drew.bel
            have bA : ∀ v, Below w2.heap.size w2 (wr.drew.alloc v) := fun v => HX.out.drew.bel.alloc HX.out.drew.size v
            have hzr : w2.heap.size ≤ wr.heap.size := HX.out.size
            have hoD : Hid (wr.drew.ownsRow _ _ _ _ _ _) := ho.out
            have HXD := Lib.hid HX.out.drew
            obtain ⟨am, capm, rfl, _⟩ := (ownFl ho.out).shape
            go_wp2_with fail
            go_region_held3 (fun w' => w'.cell? ⟨w.heap.size, 0, none⟩ = some (.slice (some ⟨bn, on, none⟩) D.1.length ca) ∧ w'.cell? ⟨bo, oo + k, none⟩ = some (.int .i64 ((s : Nat) : Int)) ∧ w'.cell? ⟨bn, on + s, none⟩ = some (.slice (some ⟨br, or_, none⟩) 3 cr) ∧ w'.cell? ⟨br, or_ + c, none⟩ = some (.int .i64 ((t : Nat) : Int)))
              (first | (exact HS.out _ bD) | (exact HS.out _ (bA _)) | (exact HS.out _ b7))
              (first | (go_at_call 141; refine (HCall.out _ bD).mono ?_; rintro e w' ⟨rfl, rfl⟩)
                     | (refine stepAppAt elInt (by decide) rfl (.tmp 26) (.tmp 40) rfl w2.heap.size _ _ _ [.int .i64 ((y : Nat) : Int)] _ wr.heap.size rfl rfl (hoD.out.alloc _) (by exact blkNew _ _ rfl) rfl (by simp [Value.oneCell']) (by omega) (by simp; omega) ?_
                        intro g7 cap7 w7 ho7 hg7 hat7
                        have hg8 : wr.drew.grownBy w7 _ := grownTrans (grownBel ((Below.refl _ _).alloc (Nat.le_refl _) _)) hg7
                        have HX7 := Lib.hid (HXD.out.grow hoD.out hg8 hne.out)
                        have b7 := HX7.out.bel))
            have hne8 : Hid (∀ p ∈ rs, p.1.ownBlock ≠ Value.ownBlock (.slice (some ⟨g7, 0, none⟩) (c + 1) cap7)) := fun p hp he => by
              rcases hat7.out with h | h
              · exact hne.out p hp (he.trans h.symm)
              · obtain ⟨g, e1, hg⟩ := HX.out.lt hp
                rw [e1] at he
                simp [Value.ownBlock] at he
                have : (wr.drew.alloc (.cells #[.int .i64 ((y : Nat) : Int)] 3)).heap.size = wr.heap.size + 1 := World.size_alloc _ _
                simp at h
                omega
            clear b7 hat7 hg8 hg7 bA bD hoD HXD HS HCall ho hne HX
            go_wp2
            go_roundw
            case rel => exact ⟨c + 1, by omega, by go_num, by rw [Hrow.out, List.map_append]; exact ho7.out, hne8, HX7⟩
            case measure => simp [intOf]; omega
          · obtain rfl : c = 3 := by omega
            obtain ⟨am, capm, rfl, _⟩ := (ownFl ho.out).shape
            obtain ⟨c0, c1, f0, f1⟩ := blk2 HX.out.b4
            have hzr : w2.heap.size ≤ wr.heap.size := HX.out.size
            have hr3 : OwI wr w2.heap.size (.slice am 3 capm) (rowL D M s 3) := by
              have := ho.out
              unfold OwI
              rw [rowL_len]
              exact this
            go_wp2_with (
              refine appAt elInts (by decide) rfl (.tmp 43) (.tmp 45) rfl w2.heap.size _ _ _ [.slice am 3 capm] wr rfl rfl rfl HX.out.nx rfl (by simp [Value.oneCell']) (by have := Hrl.out; omega) HX.out.size ?_
              intro v4 w4 ho4 hg4 hat4
              obtain ⟨a4, cap4, rfl, _⟩ := (ownFl ho4.out).shape
              have HXn := Lib.hid (HX.out.row (r := rowL D M s 3) (by rw [rowL_len]; omega) hr3 hne.out hg4 ho4.out)
              have b4 := blkGrow hg4 HX.out.b4 (own_cells' HX.out.nx HX.out.b4 (by decide))
              obtain ⟨c0', c1', f0', f1'⟩ := blk2 b4
              clear b4 c0 c1 f0 f1 hat4 ho4)
            generalize w4.setCell ⟨w2.heap.size, 0, none⟩ (.slice a4 (rs.length + 1) cap4) = w5 at *
            clear hg4 HX c0' c1' f0' f1' ho hr3 hne
            have Hrs2 : Hid ((rs ++ [(Value.slice am 3 capm, rowL D M s 3)]).map (·.2) = (M.take (k + 1)).map fun s => rowL D M s 3) := by
              rw [Htk.out, List.map_append, List.map_append, Hrs.out]; rfl
            have Hes : Hid ((M.take k).map (de D) ++ [de D s] = (M.take (k + 1)).map (de D)) := by rw [Htk.out, List.map_append]; rfl
            have Hml : Hid (((M.take k).map (de D)).length = k) := by unfold Hid; simp; omega
            obtain ⟨es, hes⟩ : ∃ es, es = (M.take k).map (de D) := ⟨_, rfl⟩
            rw [← hes] at HXn Hml Hes
            clear hes
            obtain ⟨aE, capE, rfl, _⟩ := (ownFl HXn.out.en).shape
            obtain ⟨c0, c1, f0, f1⟩ := blk2 HXn.out.b4
            obtain ⟨be, oe, e1, he⟩ := HD2.out.mark hyes.out hsn
            cases e1
            obtain ⟨bo, oo, e1, hcell⟩ := Fl.at (ownFl HO.out).fl (i := k) (by simp; omega)
            cases e1
            have hst : (M.map fun s : Nat => Value.int .i64 s)[k]'(by simp; omega) = .int .i64 ((s : Nat) : Int) := by
              have := Hs.out
              rw [List.getElem?_eq_getElem (by omega)] at this
              injection this with this
              rw [List.getElem_map, this]
            rw [hst] at hcell
            clear hst
            have hkI : (k : Int) < (K : Int) := by omega
            have hsI : (s : Int) < (D.2.length : Int) := by rw [hyes.out.2.1]; omega
            have hsl : s < D.2.length := by rw [hyes.out.2.1]; omega
            generalize de D s = x at *
            have hb5 : Below w2.heap.size w2 w5 := HXn.out.bel
            have e1D : w5.drew.cell? ⟨w.heap.size, 1, none⟩ = some (.slice (some ⟨be, oe, none⟩) D.2.length d) := kpB (S := fun _ => True) hb5 _ _ trivial (blk2 K0.out).2.1
            have e2D : w5.drew.cell? ⟨bo, oo + k, none⟩ = some (.int .i64 ((s : Nat) : Int)) := kpB (S := fun _ => True) hb5 _ _ trivial hcell
            have e3D : w5.drew.cell? ⟨be, oe + s, none⟩ = some (.bool x) := kpB (S := fun _ => True) hb5 _ _ trivial he
            have hz5 : w2.heap.size ≤ w5.heap.size := HXn.out.size
            have HXD := Lib.hid HXn.out.drew
            have c1D : w5.drew.cell? ⟨w2.heap.size, 1, none⟩ = some (.slice aE es.length capE) := c1
            have c1A : (w5.drew.alloc (.cells #[.bool x] 4)).cell? ⟨w2.heap.size, 1, none⟩ = some (.slice aE es.length capE) := kpAlloc (S := fun _ => True) _ _ trivial c1D
            have c1B : (w5.alloc (.cells #[.bool x] 4)).drew.cell? ⟨w2.heap.size, 1, none⟩ = some (.slice aE es.length capE) := c1A
            clear he hcell
            go_region_law
              (refine stepAppAt elBool (by decide) rfl (.tmp 49) (.tmp 58) rfl w2.heap.size _ _ _ [.bool x] _ w5.heap.size rfl rfl (HXD.out.en.alloc _) (by exact blkNew _ _ rfl) rfl (by simp [Value.oneCell']) (by have := Hml.out; omega) (by simp; omega) ?_
               intro g7 cap7 w7 ho7 hg7 hat7
               have hg8 : w5.drew.grownBy w7 _ := grownTrans (grownBel ((Below.refl _ _).alloc (Nat.le_refl _) _)) hg7
               have HX7 := Lib.hid (HXD.out.mark hg8 ho7.out)
               have b4' := blkGrow hg8 HXD.out.b4 (own_cells' HXD.out.en HXD.out.b4 (by decide))
               obtain ⟨c0', c1', f0', f1'⟩ := blk2 b4'
               clear b4')
            all_goals (
              rw [Hes.out] at HX7
              clear c1D c1A c1B e1D e2D e3D HXD HXn hg8 hat7 hg7 ho7 c0' c1' f0' f1' c0 c1 f0 f1
              go_wp2
              go_roundw
              case rel => exact ⟨k + 1, _, _, _, by omega, by go_num, Hrs2, HX7⟩
              case measure => simp [intOf]; omega)
      · obtain rfl : k = K := by omega
        have htake : M.take k = M := List.take_of_length_le (by omega)
        rw [htake] at Hrs HX
        have hd := HX.out.dfa (by have := Hrl.out; omega) (by simp; omega)
        rw [Hrs.out, ← trim_rows, ← Htr.out] at hd
        obtain ⟨c0, c1, _, _⟩ := blk2 HX.out.b4
        have hb5 := HX.out.bel
        have hsz := HX.out.size
        obtain ⟨z0, z1, y0, y1⟩ := blk2 (blkBel hb5 K1.out)
        have hbw5 := hbw2.out.trans (hb5.mono hbw2.out.size)
        obtain ⟨aN, capN, bN, capN', rfl, rfl, _, _⟩ := hd.rd.shapes
        have HDf := Lib.hid hd
        have hkk : ¬ ((k : Int) < (k : Int)) := by omega
        clear hd HX Hrl htake Hrs hlt hk
        generalize trimD D = C at *
        go_wp2
        have f0 := cell_setOther (o := 1) (u := .slice bN C.2.length capN') (cell_setSame (u := .slice aN C.1.length capN) z0) (by omega)
        have f1 := cell_setSame (u := .slice bN C.2.length capN') (cell_setOther (o := 0) (u := .slice aN C.1.length capN) z1 (by omega))
        refine bodyPost_ret (v := .agg #[.slice aN C.1.length capN, .slice bN C.2.length capN']) (by simp [results, Try.results103, go_sem, f0, f1]) rfl ?_
        rw [orNo_pos hyes.out]
        exact RD.fin hbw5 (by omega) (HDf.out.mono (fun b hb => ⟨⟨by omega, hb.1.2⟩, by omega⟩))
end Go.Proofs.Ytbcjhiponbfbnaa
namespace Go.Proofs.Ytbcjhiponbfbnaa
open Go.RowKit
set_option maxRecDepth 100000
section
variable {S : Type} [DecidableEq S] {nx : S → Nat → S} {en : S → Bool} {M : List S}
theorem aut_len : (autD nx en M).1.length = M.length := by simp [autD]
theorem aut_dn {i c : Nat} (hi : i < M.length) (hc : c < 3) : dn (autD nx en M) i c = M.idxOf (nx M[i] c) := by
  unfold dn autD
  simp only [List.getD_eq_getElem?_getD, List.getElem?_map, List.getElem?_eq_getElem hi, Option.map_some, Option.getD_some]
  rcases (by omega : c = 0 ∨ c = 1 ∨ c = 2) with rfl | rfl | rfl <;> simp
theorem aut_de {i : Nat} (hi : i < M.length) : de (autD nx en M) i = en M[i] := by
  unfold de autD
  simp [List.getD_eq_getElem?_getD, hi]
theorem aut_ok (h1 : 1 ≤ M.length) (h40 : M.length ≤ 40) (hcl : ∀ s ∈ M, nx s 0 ∈ M ∧ nx s 1 ∈ M ∧ nx s 2 ∈ M) : okD (autD nx en M) := by
  refine ⟨by rw [aut_len]; exact ⟨h1, h40⟩, by simp [autD], fun r hr => ?_⟩
  rw [aut_len]
  unfold autD at hr
  obtain ⟨s, hs, rfl⟩ := List.mem_map.1 hr
  refine ⟨rfl, fun x hx => ?_⟩
  have k := fun t (ht : t ∈ M) => List.idxOf_lt_length_of_mem ht
  obtain ⟨h0, h1, h2⟩ := hcl s hs
  have k0 := k _ h0
  have k1 := k _ h1
  have k2 := k _ h2
  simp at hx
  rcases hx with rfl | rfl | rfl <;> omega
theorem aut_lgs (hcl : ∀ s ∈ M, nx s 0 ∈ M ∧ nx s 1 ∈ M ∧ nx s 2 ∈ M) {i : Nat} (hi : i < M.length) : lg (dn (autD nx en M)) (de (autD nx en M)) i = lg nx en M[i] := by
  have hcl' : ∀ s ∈ M, ∀ c, c < 3 → nx s c ∈ M := fun s hs c hc => by
    rcases (by omega : c = 0 ∨ c = 1 ∨ c = 2) with rfl | rfl | rfl
    · exact (hcl s hs).1
    · exact (hcl s hs).2.1
    · exact (hcl s hs).2.2
  obtain ⟨d, _⟩ : ∃ d, d = M[i] := ⟨_, rfl⟩
  funext w
  have := lg_map (nx := dn (autD nx en M)) (ny := nx) (en := de (autD nx en M)) (em := en) (h := fun i => M.getD i d) (P := fun i => i < M.length)
    (fun i hi c hc => by rw [aut_dn hi hc]; exact List.idxOf_lt_length_of_mem (hcl' _ (List.getElem_mem hi) c hc))
    (fun i hi c hc => by
      rw [aut_dn hi hc]
      have hm := hcl' _ (List.getElem_mem hi) c hc
      have hl := List.idxOf_lt_length_of_mem hm
      simp only [List.getD_eq_getElem?_getD, List.getElem?_eq_getElem hl, List.getElem?_eq_getElem hi, Option.getD_some, List.getElem_idxOf])
    (fun i hi => by rw [aut_de hi]; simp [List.getD_eq_getElem?_getD, hi]) w i hi
  rw [this]
  simp [List.getD_eq_getElem?_getD, hi]
end
theorem trim_closed {D : DfaD} (hD : okD D) : ∀ s ∈ rnd (dn D) 0 D.1.length, dn D s 0 ∈ rnd (dn D) 0 D.1.length ∧ dn D s 1 ∈ rnd (dn D) 0 D.1.length ∧ dn D s 2 ∈ rnd (dn D) 0 D.1.length :=
  rnd_closed (dn D) (rnd_len_le (nx := dn D) hD.1.1 (dn_lt3 hD) _)
theorem trim_ok {D : DfaD} (hD : okD D) : okD (trimD D) :=
  aut_ok (rnd_pos _ _ _) (Nat.le_trans (rnd_len_le (nx := dn D) hD.1.1 (dn_lt3 hD) _) hD.1.2) (trim_closed hD)
theorem trim_lg {D : DfaD} (hD : okD D) : lgD (trimD D) = lgD D := by
  unfold lgD trimD
  rw [aut_lgs (trim_closed hD) (rnd_pos _ _ _)]
  have h0 := rnd_zero (dn D) 0 D.1.length
  rw [List.getElem?_eq_getElem (rnd_pos _ _ _)] at h0
  injection h0 with h0
  rw [h0]
/-- One row of the automaton of the classes. -/
noncomputable def rowC (T : DfaD) (s m : Nat) : List Int := (List.range m).map fun c => ((cn T s c : Nat) : Int)
theorem rowC_succ (T : DfaD) (s m : Nat) : rowC T s (m + 1) = rowC T s m ++ [((cn T s m : Nat) : Int)] := by simp [rowC, List.range_succ]
theorem rowC_len (T : DfaD) (s m : Nat) : (rowC T s m).length = m := by simp [rowC]
/-- The automaton of the classes. -/
noncomputable def smlD (T : DfaD) : DfaD := ((List.range T.1.length).map fun s => rowC T s 3, (List.range T.1.length).map (de T))
theorem sml_dn (T : DfaD) {s c : Nat} (hs : s < T.1.length) (hc : c < 3) : dn (smlD T) s c = cn T s c := by
  unfold dn smlD
  simp only [List.getD_eq_getElem?_getD, List.getElem?_map, List.getElem?_range hs, Option.map_some, Option.getD_some, rowC]
  simp [hc]
theorem sml_de (T : DfaD) {s : Nat} (hs : s < T.1.length) : de (smlD T) s = de T s := by
  unfold de smlD
  simp only [List.getD_eq_getElem?_getD, List.getElem?_map, List.getElem?_range hs, Option.map_some, Option.getD_some]
  rfl
theorem sml_len (T : DfaD) : (smlD T).1.length = T.1.length := by simp [smlD]
theorem sml_ok {T : DfaD} (hT : okD T) : okD (smlD T) := by
  refine ⟨by rw [sml_len]; exact hT.1, by simp [smlD], fun r hr => ?_⟩
  rw [sml_len]
  unfold smlD at hr
  obtain ⟨s, hs, rfl⟩ := List.mem_map.1 hr
  have hs' : s < T.1.length := List.mem_range.1 hs
  refine ⟨rowC_len T s 3, fun x hx => ?_⟩
  unfold rowC at hx
  obtain ⟨c, hc, rfl⟩ := List.mem_map.1 hx
  have := cn_lt T hT hs' (List.mem_range.1 hc)
  omega
theorem sml_lg {T : DfaD} (hT : okD T) {s : Nat} (hs : s < T.1.length) : lg (dn (smlD T)) (de (smlD T)) s = lg (dn T) (de T) s := by
  rw [← lg_cn T hT hs]
  funext w
  exact lg_map (nx := dn (smlD T)) (ny := cn T) (en := de (smlD T)) (em := de T) (h := fun s => s) (P := fun s => s < T.1.length) (fun s hs c hc => by rw [sml_dn T hs hc]; exact cn_lt T hT hs hc) (fun s hs c hc => sml_dn T hs hc) (fun s hs => sml_de T hs) w s hs
/-- The automaton of the classes, trimmed, is the smallest one. -/
theorem sml_trim {T : DfaD} (hT : okD T) : trimD (smlD T) = canon (lgD T) := by
  have hQ := sml_ok hT
  have h := canon_of (nx := dn (smlD T)) (en := de (smlD T)) (P := fun s => s < T.1.length ∧ cls T s = s) (s0 := 0) ⟨hT.1.1, cls_zero T⟩
    (fun s hs => ⟨by rw [sml_dn T hs.1 (by omega)]; exact ⟨cn_lt T hT hs.1 (by omega), cls_idem T _⟩, by rw [sml_dn T hs.1 (by omega)]; exact ⟨cn_lt T hT hs.1 (by omega), cls_idem T _⟩, by rw [sml_dn T hs.1 (by omega)]; exact ⟨cn_lt T hT hs.1 (by omega), cls_idem T _⟩⟩)
    (fun s t hs ht he => by
      rw [sml_lg hT hs.1, sml_lg hT ht.1] at he
      rw [← hs.2, ← ht.2]
      exact (cls_same T).2 he)
    (k := (smlD T).1.length) (rnd_len_le (nx := dn (smlD T)) (by rw [sml_len]; exact hT.1.1) (dn_lt3 hQ) _) (by rw [sml_len]; have := hT.1.2; omega)
  unfold trimD
  rw [h.1, sml_lg hT hT.1.1]
  rfl
theorem small_eq {D : DfaD} (hD : okD D) : trimD (smlD (trimD D)) = canon (lgD D) := by rw [sml_trim (trim_ok hD), trim_lg hD]
end Go.Proofs.Ytbcjhiponbfbnaa
namespace Go.Proofs.Ytbcjhiponbfbnaa
open Go.RowKit
theorem ok_small {D : DfaD} (h : okD D) : smallD D := by
  have h40 := h.1.2
  exact ⟨⟨by omega, fun r hr => by rw [(h.2.2 r hr).1]; omega⟩, by rw [h.2.1]; omega⟩
theorem nil_small : smallD ([], []) := ⟨⟨by simp, nofun⟩, by simp⟩
theorem canon_ok {D : DfaD} (h : okD D) : okD (canon (lgD D)) := by rw [← small_eq h]; exact trim_ok (sml_ok (trim_ok h))
theorem orNo_small {p : Prop} {D : DfaD} (h : p → okD D) : smallD (orNo p D) := by
  by_cases hp : p
  · rw [orNo_pos hp]; exact ok_small (h hp)
  · rw [orNo_neg hp]; exact nil_small
theorem minSmall (D : DfaD) : smallD (orNo (okD D) (canon (lgD D))) := orNo_small canon_ok
theorem othSmall (D : DfaD) : smallD (orNo (okD D) (canon (lgD (othD D)))) := orNo_small fun h => canon_ok (oth_ok h)
theorem ledSmall (D : DfaD) : smallD (orNo (okD D) (canon (lgD (ledD D)))) := orNo_small fun h => canon_ok (led_ok h)
end Go.Proofs.Ytbcjhiponbfbnaa
namespace Go.Proofs.Ytbcjhiponbfbnaa
open Go.RowKit
set_option maxRecDepth 100000
variable {S T : Nat → Prop}
/-- Block B holds an automaton that reads D. -/
structure BxD (w : World) (B : Nat) (v1 v2 : Value) (D : DfaD) : Prop where
  k : w.heap[B]? = some (.cells #[v1, v2] 52 (0, 0))
  r : DfaR (fun _ => True) w v1 v2 D
theorem BxD.stay {w w' : World} {B : Nat} {v1 v2 : Value} {D : DfaD} (h : BxD w B v1 v2 D) (hb : Below w.heap.size w w') : BxD w' B v1 v2 D := ⟨blkBel hb h.k, h.r.stay (kpB hb)⟩
theorem BxD.c0 {w : World} {B : Nat} {v1 v2 : Value} {D : DfaD} (h : BxD w B v1 v2 D) : w.cell? ⟨B, 0, none⟩ = some v1 := (blk2 h.k).1
theorem BxD.c1 {w : World} {B : Nat} {v1 v2 : Value} {D : DfaD} (h : BxD w B v1 v2 D) : w.cell? ⟨B, 1, none⟩ = some v2 := (blk2 h.k).2.1
theorem BxD.mk0 {w : World} {v1 v2 : Value} {D : DfaD} (h : DfaR S w v1 v2 D) : BxD (w.alloc (.cells #[v1, v2] 52)) w.heap.size v1 v2 D :=
  ⟨blkNew _ _ rfl, (h.mono fun _ _ => trivial).stay (kpB ((Below.refl _ _).alloc (Nat.le_refl _) _))⟩
theorem belAlloc (w : World) (o : Obj) : Below w.heap.size w (w.alloc o) := (Below.refl _ _).alloc (Nat.le_refl _) _
theorem belUp {w a b : World} (h : Below w.heap.size w a) (h2 : Below a.heap.size a b) : Below w.heap.size w b := h.trans (h2.mono h.size)
/-- The automaton that a call has answered is laid into a box: the world behind, and what holds there. -/
theorem boxed {w w1 : World} {v1 v2 : Value} {D : DfaD} (hb : Below w.heap.size w w1) (h : DfaR S w1 v1 v2 D) : ∃ W, W = w1.alloc (.cells #[v1, v2] 52) ∧ Hid (Below w.heap.size w W) ∧ Hid (BxD W w1.heap.size v1 v2 D) :=
  ⟨_, rfl, belUp hb (belAlloc _ _), BxD.mk0 h⟩
theorem BxD.named {w : World} {B : Nat} {v1 v2 : Value} {D : DfaD} (h : BxD w B v1 v2 D) : ∃ b, b = B ∧ Hid (BxD w b v1 v2 D) := ⟨B, rfl, h⟩
theorem atArgs {P : Program} {f : FuncId} (args : Array Value) {w : World} {Q : Ending → World → Prop} (h : Calls P f args w Q) : Calls P f args w Q := h
theorem drewSz (w : World) : w.drew.heap.size = w.heap.size := rfl
theorem drewNSz (w : World) (n : Nat) : (w.drewN n).heap.size = w.heap.size := rfl
theorem boxedSet {w w1 : World} {b : Nat} {x y v1 v2 : Value} {D : DfaD} (hw : Below w.heap.size w w1) (hle : w.heap.size ≤ b) (hk : w1.heap[b]? = some (.cells #[x, y] 52 (0, 0))) (h : DfaR S w1 v1 v2 D) (hS : ∀ i, S i → i ≠ b) :
    ∃ W, W = (w1.setCell ⟨b, 0, none⟩ v1).setCell ⟨b, 1, none⟩ v2 ∧ Hid (Below w.heap.size w W) ∧ Hid (BxD W b v1 v2 D) := by
  have k1 : Kp (· ≠ b) w1 ((w1.setCell ⟨b, 0, none⟩ v1).setCell ⟨b, 1, none⟩ v2) := kpSet.trans kpSet
  exact ⟨_, rfl, Lib.hid ((hw.setCell (p := ⟨b, 0, none⟩) hle _).setCell (p := ⟨b, 1, none⟩) hle _), Lib.hid ⟨heap_set (heap_set hk 0 v1) 1 v2, (h.stay (k1.mono fun i hi => hS i hi)).mono fun _ _ => trivial⟩⟩
end Go.Proofs.Ytbcjhiponbfbnaa
namespace Go.Proofs.Ytbcjhiponbfbnaa
open Go.RowKit
set_option maxRecDepth 100000
variable {S T : Nat → Prop}
end Go.Proofs.Ytbcjhiponbfbnaa
