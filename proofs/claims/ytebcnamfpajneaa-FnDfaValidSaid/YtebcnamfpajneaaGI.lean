/- Two automata side by side: the program's.
The smallest automaton of two side by side: the program's.
The smallest automaton of two side by side is small. No program.
Plain laws of languages that the statements about automata rest on. -/
import Derived.Deep.RegionHeld3
import Derived.StillTailTactics
import Derived.Test.YtebcnamfpajneaaXpp
import Derived.Test.YtebcnamfpajneaaGG
set_option linter.unusedSimpArgs false
set_option linter.unusedVariables false
set_option linter.unusedSectionVars false
namespace Go.Proofs.Ytebcnamfpajneaa
open Go.RowKit
set_option maxRecDepth 100000
variable {S T : Nat → Prop}
/-- Both move. -/
def pn (A B : DfaD) (s : Nat × Nat) (c : Nat) : Nat × Nat := (dn A s.1 c, dn B s.2 c)
/-- Both marks. -/
def pe (g : Bool → Bool → Bool) (A B : DfaD) (s : Nat × Nat) : Bool := g (de A s.1) (de B s.2)
/-- A pair of states. -/
def pst (A B : DfaD) (s : Nat × Nat) : Prop := s.1 < A.1.length ∧ s.2 < B.1.length
theorem pst_zero {A B : DfaD} (hA : okD A) (hB : okD B) : pst A B (0, 0) := ⟨hA.1.1, hB.1.1⟩
theorem pst_step {A B : DfaD} (hA : okD A) (hB : okD B) (s : Nat × Nat) (h : pst A B s) (c : Nat) (hc : c < 3) : pst A B (pn A B s c) := ⟨dn_lt hA h.1 hc, dn_lt hB h.2 hc⟩
theorem pst_small {A B : DfaD} (hA : okD A) (hB : okD B) (s : Nat × Nat) (h : pst A B s) : s.1 ≤ 1000000000 ∧ s.2 ≤ 1000000000 := by
  have h1 := h.1; have h2 := h.2; have h3 := hA.1.2; have h4 := hB.1.2
  omega
/-- More than n pairs are met. -/
def pbig (A B : DfaD) (n : Nat) : Prop := ∃ k, n < (rnd (pn A B) (0, 0) k).length
theorem pbig_not {A B : DfaD} {n k : Nat} (h : (rnd (pn A B) (0, 0) k).length = k) (hk : k ≤ n) : ¬ pbig A B n := fun ⟨j, hj⟩ => by
  rcases Nat.le_total k j with h1 | h1
  · rw [rnd_done (pn A B) (Nat.le_of_eq h) h1] at hj; omega
  · have := (rnd_pre (pn A B) (0, 0) h1).length_le; omega
theorem pair_ok {A B : DfaD} {g : Bool → Bool → Bool} {k : Nat} (h : (rnd (pn A B) (0, 0) k).length = k) (hk : k ≤ 40) : okD (autD (pn A B) (pe g A B) (rnd (pn A B) (0, 0) k)) :=
  aut_ok (by have := rnd_pos (pn A B) (0, 0) k; omega) (by omega) (rnd_closed (pn A B) (Nat.le_of_eq h))
theorem pair_lg {A B : DfaD} {g : Bool → Bool → Bool} {k : Nat} (h : (rnd (pn A B) (0, 0) k).length = k) : lgD (autD (pn A B) (pe g A B) (rnd (pn A B) (0, 0) k)) = lg (pn A B) (pe g A B) (0, 0) := by
  unfold lgD
  rw [aut_lgs (rnd_closed (pn A B) (Nat.le_of_eq h)) (rnd_pos _ _ _)]
  have h0 := rnd_zero (pn A B) (0, 0) k
  rw [List.getElem?_eq_getElem (rnd_pos _ _ _)] at h0
  injection h0 with h0
  rw [h0]
/-- Whether there is a result. -/
def prP (A B : DfaD) : Prop := okD A ∧ okD B ∧ ¬ pbig A B 40
/-- The smallest automaton of two side by side. -/
noncomputable def prD (g : Bool → Bool → Bool) (A B : DfaD) : DfaD := orNo (prP A B) (canon (lg (pn A B) (pe g A B) (0, 0)))
/-- The call answers an automaton in new memory, and whether there is one. -/
def RDb (D : DfaD) (p : Prop) (w : World) (e : Ending) (w' : World) : Prop :=
  ∃ v1 v2 b, e = .returned (.tuple #[.agg #[v1, v2], .bool b]) ∧ Below w.heap.size w w' ∧ Hid (b = true ↔ p) ∧ Hid (DfaW (fun b => w.heap.size ≤ b ∧ b < w'.heap.size) w' v1 v2 D)
set_option maxHeartbeats 1000000 in
theorem prodNext_c (vn ve un ue : Value) (A B : DfaD) (s : Nat × Nat) (c B4 B5 : Nat) (w : World) (h : DfaR S w vn ve A) (h' : DfaR T w un ue B) (hA : okD A) (hB : okD B) (hs : pst A B s) (hc : c < 3)
    (K4 : w.heap[B4]? = some (.cells #[vn, ve] 26 (0, 0))) (K5 : w.heap[B5]? = some (.cells #[un, ue] 26 (0, 0))) :
    Calls Try.prog 116 (#[.agg #[.int .i64 ((s.1 : Nat) : Int), .int .i64 ((s.2 : Nat) : Int)], .int .i64 c] ++ #[.pointer (some ⟨B4, 0, none⟩), .pointer (some ⟨B5, 0, none⟩)]) w (RPn (pn A B s c) w) := by
  obtain ⟨s1, s2⟩ := s
  obtain ⟨hs1, hs2⟩ := hs
  dsimp only at hs1 hs2 ⊢
  obtain ⟨a, ca, b, d, rfl, rfl, hn, hm⟩ := h.shapes
  obtain ⟨a', ca', b', d', rfl, rfl, hn', hm'⟩ := h'.shapes
  obtain ⟨bn, on, br, or_, cr, e1, x1, x2, x3⟩ := h.step hA hs1 hc
  cases e1
  obtain ⟨bn', on', br', or', cr', e1, y1, y2, y3⟩ := h'.step hB hs2 hc
  cases e1
  have hsI : (s1 : Int) < (A.1.length : Int) := by omega
  have hsI' : (s2 : Int) < (B.1.length : Int) := by omega
  have hcI : (c : Int) < 3 := by omega
  have Hpn : Hid (pn A B (s1, s2) c = (dn A s1 c, dn B s2 c)) := rfl
  generalize dn A s1 c = u at *
  generalize dn B s2 c = u' at *
  obtain ⟨W, hW⟩ : ∃ W, W = (w.alloc (.cells #[.int .i64 ((s1 : Nat) : Int), .int .i64 ((s2 : Nat) : Int)] 95)).alloc (.cells #[.int .i64 0, .int .i64 0] 95) := ⟨_, rfl⟩
  have hb0 : Below w.heap.size w W := by rw [hW]; exact ((Below.refl _ _).alloc (Nat.le_refl _) _).alloc (by simp) _
  have Kp4 : Hid (W.heap[w.heap.size]? = some (.cells #[.int .i64 ((s1 : Nat) : Int), .int .i64 ((s2 : Nat) : Int)] 95 (0, 0))) := by rw [hW]; exact blkOld (blkNew _ _ rfl)
  have Kp6 : Hid (W.heap[w.heap.size + 1]? = some (.cells #[.int .i64 0, .int .i64 0] 95 (0, 0))) := by rw [hW]; exact blkNew _ _ (by simp)
  have hkp := kpB (S := fun _ => True) hb0
  have z1 : W.drew.cell? ⟨B4, 0, none⟩ = some _ := hkp _ _ trivial (blk2 K4).1
  have z2 : W.drew.cell? ⟨B5, 0, none⟩ = some _ := hkp _ _ trivial (blk2 K5).1
  have x1' : W.drew.cell? _ = some _ := hkp _ _ trivial x1
  have x2' : W.drew.cell? _ = some _ := hkp _ _ trivial x2
  have y1' : W.drew.cell? _ = some _ := hkp _ _ trivial y1
  have y2' : W.drew.cell? _ = some _ := hkp _ _ trivial y2
  obtain ⟨p0, p1, _, _⟩ := blk2 Kp4.out
  obtain ⟨r0, r1, f0, f1⟩ := blk2 Kp6.out
  have p0' : W.drew.cell? ⟨w.heap.size, 0, none⟩ = some _ := p0
  have p1' : W.drew.cell? ⟨w.heap.size, 1, none⟩ = some _ := p1
  have r0' : W.drew.cell? ⟨w.heap.size + 1, 0, none⟩ = some _ := r0
  have r1' : W.drew.cell? ⟨w.heap.size + 1, 1, none⟩ = some _ := r1
  have f0' : W.drew.frozen? ⟨w.heap.size + 1, 0, none⟩ = false := f0
  have f1' : W.drew.frozen? ⟨w.heap.size + 1, 1, none⟩ = false := f1
  have HW := Lib.hid hW
  have hbD : Below w.heap.size w W.drew := hb0.drew
  clear h h' hA hB K4 K5 hW x1 x2 y1 y2 hkp p0 p1 r0 r1 f0 f1 Kp4 Kp6 hb0
  go_enter Try.func116, Try.ntmps116
  go_wp2_with fail
  rw [← HW.out]
  have z1W : W.cell? ⟨B4, 0, none⟩ = some _ := z1
  have z2W : W.cell? ⟨B5, 0, none⟩ = some _ := z2
  have x1W : W.cell? _ = some _ := x1'
  have x2W : W.cell? _ = some _ := x2'
  have y1W : W.cell? _ = some _ := y1'
  have y2W : W.cell? _ = some _ := y2'
  have p0W : W.cell? ⟨w.heap.size, 0, none⟩ = some _ := p0'
  have p1W : W.cell? ⟨w.heap.size, 1, none⟩ = some _ := p1'
  go_still_tail 19, (by kernel_rfl)
  change wpList _ _ _ _ _ W.drew
  clear z1W z2W x1W x2W y1W y2W p0W p1W z1 z2 x1' x2' y1' y2' p0' p1' HW
  generalize W.drew = W2 at *
  go_wp2
  have e0 := cell_setOther (o := 1) (u := .int .i64 ((u' : Nat) : Int)) (cell_setSame (u := .int .i64 ((u : Nat) : Int)) r0') (by omega)
  have e1 := cell_setSame (u := .int .i64 ((u' : Nat) : Int)) (cell_setOther (o := 0) (u := .int .i64 ((u : Nat) : Int)) r1' (by omega))
  refine bodyPost_ret (v := .agg #[.int .i64 ((u : Nat) : Int), .int .i64 ((u' : Nat) : Int)]) (by simp [results, Try.results116, go_sem, e0, e1]) rfl ?_
  unfold RPn
  rw [Hpn.out]
  exact ⟨rfl, (hbD.setCell (by simp) _).setCell (by simp) _⟩
theorem body_prodNext : HasBody 116 := by
  intro args w
  kernel_rfl
set_option maxHeartbeats 1000000 in
theorem prodEnds_c (g : Bool → Bool → Bool) (fE : FuncId) (cE : Array Value) (vn ve un ue : Value) (A B : DfaD) (s : Nat × Nat) (B4 B5 B7 : Nat) (w : World) (h : DfaR S w vn ve A) (h' : DfaR T w un ue B) (hA : okD A) (hB : okD B) (hs : pst A B s)
    (hbE : HasBody fE) (hE : ∀ x y w, Calls Try.prog fE (#[.bool x, .bool y] ++ cE) w (RB w (g x y = true)))
    (K4 : w.heap[B4]? = some (.cells #[vn, ve] 26 (0, 0))) (K5 : w.heap[B5]? = some (.cells #[un, ue] 26 (0, 0))) (K7 : w.heap[B7]? = some (.cells #[.func (.func fE) #[] cE] 69 (0, 0))) :
    Calls Try.prog 117 (#[.agg #[.int .i64 ((s.1 : Nat) : Int), .int .i64 ((s.2 : Nat) : Int)]] ++ #[.pointer (some ⟨B7, 0, none⟩), .pointer (some ⟨B4, 0, none⟩), .pointer (some ⟨B5, 0, none⟩)]) w (RBn w (pe g A B s = true)) := by
  obtain ⟨s1, s2⟩ := s
  obtain ⟨hs1, hs2⟩ := hs
  dsimp only at hs1 hs2 ⊢
  obtain ⟨a, ca, b, d, rfl, rfl, hn, hm⟩ := h.shapes
  obtain ⟨a', ca', b', d', rfl, rfl, hn', hm'⟩ := h'.shapes
  obtain ⟨be, oe, rfl, x1⟩ := h.mark hA hs1
  obtain ⟨be', oe', rfl, y1⟩ := h'.mark hB hs2
  have hsI : (s1 : Int) < (A.2.length : Int) := by rw [hA.2.1]; omega
  have hsI' : (s2 : Int) < (B.2.length : Int) := by rw [hB.2.1]; omega
  have hsn : s1 < A.2.length := by rw [hA.2.1]; omega
  have hsn' : s2 < B.2.length := by rw [hB.2.1]; omega
  have Hpe : Hid (pe g A B (s1, s2) = g (de A s1) (de B s2)) := rfl
  generalize de A s1 = u at *
  generalize de B s2 = u' at *
  have HE := Lib.hid (hE u u')
  have HbE := Lib.hid hbE
  clear hE hbE
  obtain ⟨W, hW⟩ : ∃ W, W = w.alloc (.cells #[.int .i64 ((s1 : Nat) : Int), .int .i64 ((s2 : Nat) : Int)] 95) := ⟨_, rfl⟩
  have hb0 : Below w.heap.size w W := by rw [hW]; exact (Below.refl _ _).alloc (Nat.le_refl _) _
  have Kp4 : Hid (W.heap[w.heap.size]? = some (.cells #[.int .i64 ((s1 : Nat) : Int), .int .i64 ((s2 : Nat) : Int)] 95 (0, 0))) := by rw [hW]; exact blkNew _ _ rfl
  have hkp := kpB (S := fun _ => True) hb0
  have z1 : W.cell? ⟨B4, 1, none⟩ = some _ := hkp _ _ trivial (blk2 K4).2.1
  have z2 : W.cell? ⟨B5, 1, none⟩ = some _ := hkp _ _ trivial (blk2 K5).2.1
  have z3 : W.cell? ⟨B7, 0, none⟩ = some (.func (.func fE) #[] cE) := hkp _ _ trivial (by rw [cell_of_row w B7 0 _ _ _ K7]; rfl)
  have x1' : W.cell? _ = some _ := hkp _ _ trivial x1
  have y1' : W.cell? _ = some _ := hkp _ _ trivial y1
  obtain ⟨p0, p1, _, _⟩ := blk2 Kp4.out
  have HW := Lib.hid hW
  have hbD : Hid (Below w.heap.size w W.drew) := hb0.drew
  clear h h' hA hB K4 K5 K7 hW x1 y1 hkp Kp4 hb0
  go_enter Try.func117, Try.ntmps117
  go_wp2_with fail
  rw [← HW.out]
  go_region_held3 (fun w' => w'.cell? ⟨B4, 1, none⟩ = some (.slice (some ⟨be, oe, none⟩) A.2.length d) ∧ w'.cell? ⟨B5, 1, none⟩ = some (.slice (some ⟨be', oe', none⟩) B.2.length d') ∧ w'.cell? ⟨B7, 0, none⟩ = some (.func (.func fE) #[] cE) ∧
      w'.cell? ⟨be, oe + s1, none⟩ = some (.bool u) ∧ w'.cell? ⟨be', oe' + s2, none⟩ = some (.bool u') ∧
      w'.cell? ⟨w.heap.size, 0, none⟩ = some (.int .i64 ((s1 : Nat) : Int)) ∧ w'.cell? ⟨w.heap.size, 1, none⟩ = some (.int .i64 ((s2 : Nat) : Int)))
    (exact ⟨z1, z2, z3, x1', y1', p0, p1⟩)
    (first | (go_simp; rw [HbE.out, Oper.upon_enter]; refine (HE.out _).mono ?_; rintro e w' ⟨bq, rfl, rfl, hq⟩))
  go_wp2
  go_ret
  refine RBn.mk hbD.out ?_
  rw [Hpe.out]
  exact hq.out
theorem body_prodEnds : HasBody 117 := by
  intro args w
  kernel_rfl
theorem RDb.fin {w wr : World} {B : Nat} {C : DfaD} {p : Prop} {b : Bool} {v1 v2 : Value} (hb : Below w.heap.size w wr) (hB : w.heap.size ≤ B) (hp : Hid (b = true ↔ p))
    (hd : DfaW (fun x => (w.heap.size ≤ x ∧ x < wr.heap.size) ∧ x ≠ B) wr v1 v2 C) : RDb C p w (.returned (.tuple #[.agg #[v1, v2], .bool b])) ((wr.setCell ⟨B, 0, none⟩ v1).setCell ⟨B, 1, none⟩ v2) := by
  obtain ⟨v1', v2', e, hb', hd'⟩ := RD.fin hb hB hd
  injection e with e
  injection e with e
  have h1 := congrArg (fun a : Array Value => a[0]?) e
  have h2 := congrArg (fun a : Array Value => a[1]?) e
  simp at h1 h2
  subst h1 h2
  exact ⟨_, _, _, rfl, hb', hp, hd'⟩
set_option maxHeartbeats 1000000 in
theorem product_c (g : Bool → Bool → Bool) (most : Nat) (fE : FuncId) (cE : Array Value) (vn ve un ue : Value) (A B : DfaD) (w : World) (h : DfaR S w vn ve A) (h' : DfaR T w un ue B) (hA : okD A) (hB : okD B)
    (hbE : HasBody fE) (hE : ∀ x y w, Calls Try.prog fE (#[.bool x, .bool y] ++ cE) w (RB w (g x y = true))) (hm : 1 ≤ most ∧ most ≤ 1000000) :
    Calls Try.prog 108 #[.agg #[vn, ve], .agg #[un, ue], .int .i64 most, .func (.func fE) #[] cE] w (XPp (pn A B) (pe g A B) (0, 0) most w) := by
  obtain ⟨a, ca, b, d, rfl, rfl, hn, hm1⟩ := h.shapes
  obtain ⟨a', ca', b', d', rfl, rfl, hn', hm1'⟩ := h'.shapes
  obtain ⟨W, hW⟩ : ∃ W, W = (((w.alloc (.cells #[.slice a A.1.length ca, .slice b A.2.length d] 26)).alloc (.cells #[.slice a' B.1.length ca', .slice b' B.2.length d'] 26)).alloc (.cells #[.func (.func fE) #[] cE] 69)).alloc (.cells #[.slice none 0 0, .slice none 0 0] 26) := ⟨_, rfl⟩
  have hb0 : Below w.heap.size w W := by rw [hW]; exact ((((Below.refl _ _).alloc (Nat.le_refl _) _).alloc (by simp) _).alloc (by simp; omega) _).alloc (by simp; omega) _
  have K4 : Hid (W.heap[w.heap.size]? = some (.cells #[.slice a A.1.length ca, .slice b A.2.length d] 26 (0, 0))) := by rw [hW]; exact blkOld (blkOld (blkOld (blkNew _ _ rfl)))
  have K5 : Hid (W.heap[w.heap.size + 1]? = some (.cells #[.slice a' B.1.length ca', .slice b' B.2.length d'] 26 (0, 0))) := by rw [hW]; exact blkOld (blkOld (blkNew _ _ (by simp)))
  have K7 : Hid (W.heap[w.heap.size + 2]? = some (.cells #[.func (.func fE) #[] cE] 69 (0, 0))) := by rw [hW]; exact blkOld (blkNew _ _ (by simp))
  have K8 : Hid (W.heap[w.heap.size + 3]? = some (.cells #[.slice none 0 0, .slice none 0 0] 26 (0, 0))) := by rw [hW]; exact blkNew _ _ (by simp)
  have hz8 := (Array.getElem?_eq_some_iff.1 K8.out).1
  have H := h.stay (kpB hb0)
  have H' := h'.stay (kpB hb0)
  have HCall : Hid (Calls Try.prog 115 #[.agg #[.int .i64 0, .int .i64 0], .int .i64 most, .func (.func 116) #[] #[.pointer (some ⟨w.heap.size, 0, none⟩), .pointer (some ⟨w.heap.size + 1, 0, none⟩)],
      .func (.func 117) #[] #[.pointer (some ⟨w.heap.size + 2, 0, none⟩), .pointer (some ⟨w.heap.size, 0, none⟩), .pointer (some ⟨w.heap.size + 1, 0, none⟩)]] W (XPp (pn A B) (pe g A B) (0, 0) most W)) :=
    exploredPair_c (P := pst A B) (pn A B) (pe g A B) (0, 0) most _ _ _ _ W (pst_zero hA hB) (pst_step hA hB) (pst_small hA hB) hm body_prodNext body_prodEnds
      (fun s c w3 hs hc hb3 => prodNext_c _ _ _ _ A B s c _ _ w3 (H.stay (kpB hb3)) (H'.stay (kpB hb3)) hA hB hs hc (blkBel hb3 K4.out) (blkBel hb3 K5.out))
      (fun s w3 hs hb3 => prodEnds_c g fE cE _ _ _ _ A B s _ _ _ w3 (H.stay (kpB hb3)) (H'.stay (kpB hb3)) hA hB hs hbE hE (blkBel hb3 K4.out) (blkBel hb3 K5.out) (blkBel hb3 K7.out))
  have HW := Lib.hid hW
  have Hb0 := Lib.hid hb0
  clear h h' hA hB hbE hE H H' hW hb0 K4 K5 K7
  go_enter Try.func108, Try.ntmps108
  go_wp2_with fail
  rw [← HW.out]
  refine HCall.out.mono ?_
  rintro e w2 ⟨vN, vE, vM, ok, rfl, hb2, hx⟩
  obtain ⟨z0, z1, y0, y1⟩ := blk2 (blkBel hb2 K8.out)
  have hB2 := Lib.hid (Hb0.out.trans (hb2.mono Hb0.out.size))
  have hz2 := hb2.size
  have hzw := Hb0.out.size
  have hsh : ∃ a1 n1 c1 a2 n2 c2, vN = .slice a1 n1 c1 ∧ vE = .slice a2 n2 c2 := by
    rcases hx.out with ⟨_, k, _, _, h3, _⟩ | ⟨_, h1, h2, _⟩
    · obtain ⟨a1, c1, a2, c2, e1, e2, _, _⟩ := h3.rd.shapes
      exact ⟨_, _, _, _, _, _, e1, e2⟩
    · exact ⟨_, _, _, _, _, _, h1, h2⟩
  obtain ⟨a1, n1, cc1, a2, n2, cc2, rfl, rfl⟩ := hsh
  clear hb2
  go_wp2
  have f0 := cell_setOther (o := 1) (u := (.slice a2 n2 cc2)) (cell_setSame (u := (.slice a1 n1 cc1)) z0) (by omega)
  have f1 := cell_setSame (u := (.slice a2 n2 cc2)) (cell_setOther (o := 0) (u := (.slice a1 n1 cc1)) z1 (by omega))
  refine bodyPost_ret (v := .tuple #[.agg #[.slice a1 n1 cc1, .slice a2 n2 cc2], vM, .bool ok]) (by simp [results, Try.results108, go_sem, f0, f1]) rfl ?_
  refine ⟨_, _, _, _, rfl, (hB2.out.setCell (by show w.heap.size ≤ w.heap.size + 3; omega) _).setCell (by show w.heap.size ≤ w.heap.size + 3; omega) _, ?_⟩
  rcases hx.out with ⟨rfl, k, h1, h2, h3, h4⟩ | h
  · refine .inl ⟨rfl, k, h1, h2, ?_, ?_⟩
    · refine (h3.stay (fun b hb _ => ?_)).mono (fun b hb => ⟨by have := hb.1; omega, by simpa [World.setCell] using hb.2⟩)
      have hnb : b ≠ w.heap.size + 3 := by have := hb.1; omega
      rw [Below.heap_setCell _ _ _ _ hnb, Below.heap_setCell _ _ _ _ hnb]
    · have hne : vM.ownBlock = none ∨ vM.ownBlock ≠ some (w.heap.size + 3) := .inr (fun he => by have := (own_ge h4 _ he).1; omega)
      exact ownBase ((h4.kept (grownSet w2 (w.heap.size + 3) 0 (.slice a1 n1 cc1)) hne).kept (grownSet _ (w.heap.size + 3) 1 (.slice a2 n2 cc2)) hne) hzw
  · exact .inr h
end Go.Proofs.Ytebcnamfpajneaa
namespace Go.Proofs.Ytebcnamfpajneaa
open Go.RowKit
set_option maxRecDepth 100000
variable {S T : Nat → Prop}
/-- The smallest automaton, if at most 40 pairs are met. -/
noncomputable def sbD (g : Bool → Bool → Bool) (A B : DfaD) : DfaD := orNo (¬ pbig A B 40) (canon (lg (pn A B) (pe g A B) (0, 0)))
theorem prD_pos {g : Bool → Bool → Bool} {A B : DfaD} (hA : okD A) (hB : okD B) : prD g A B = sbD g A B := by
  unfold prD sbD
  by_cases h : pbig A B 40
  · rw [orNo_neg (fun hh : prP A B => hh.2.2 h), orNo_neg (fun hh => hh h)]
  · rw [orNo_pos (p := prP A B) ⟨hA, hB, h⟩, orNo_pos h]
theorem prD_neg {g : Bool → Bool → Bool} {A B : DfaD} (h : ¬ (okD A ∧ okD B)) : prD g A B = ([], []) := orNo_neg (p := prP A B) (fun hh => h ⟨hh.1, hh.2.1⟩) _
def gBoth (x y : Bool) : Bool := x && y
def gEither (x y : Bool) : Bool := x || y
def gLess (x y : Bool) : Bool := x && !y
def gApart (x y : Bool) : Bool := x != y
set_option maxHeartbeats 1000000 in
theorem sideBySide_c (g : Bool → Bool → Bool) (fE : FuncId) (cE : Array Value) (vn ve un ue : Value) (A B : DfaD) (w : World) (h : DfaR S w vn ve A) (h' : DfaR T w un ue B) (hA : okD A) (hB : okD B)
    (hbE : HasBody fE) (hE : ∀ x y w, Calls Try.prog fE (#[.bool x, .bool y] ++ cE) w (RB w (g x y = true))) :
    Calls Try.prog 109 #[.agg #[vn, ve], .agg #[un, ue], .func (.func fE) #[] cE] w (RDb (sbD g A B) (¬ pbig A B 40) w) := by
  obtain ⟨a, ca, b, d, rfl, rfl, hn, hm1⟩ := h.shapes
  obtain ⟨a', ca', b', d', rfl, rfl, hn', hm1'⟩ := h'.shapes
  obtain ⟨W, hW⟩ : ∃ W, W = ((w.alloc (.cells #[.slice a A.1.length ca, .slice b A.2.length d] 26)).alloc (.cells #[.slice a' B.1.length ca', .slice b' B.2.length d'] 26)).alloc (.cells #[.slice none 0 0, .slice none 0 0] 26) := ⟨_, rfl⟩
  have Hb0 : Hid (Below w.heap.size w W) := by rw [hW]; exact (((Below.refl _ _).alloc (Nat.le_refl _) _).alloc (by simp) _).alloc (by simp; omega) _
  have K4 : Hid (W.heap[w.heap.size]? = some (.cells #[.slice a A.1.length ca, .slice b A.2.length d] 26 (0, 0))) := by rw [hW]; exact blkOld (blkOld (blkNew _ _ rfl))
  have K5 : Hid (W.heap[w.heap.size + 1]? = some (.cells #[.slice a' B.1.length ca', .slice b' B.2.length d'] 26 (0, 0))) := by rw [hW]; exact blkOld (blkNew _ _ (by simp))
  have K6 : Hid (W.heap[w.heap.size + 2]? = some (.cells #[.slice none 0 0, .slice none 0 0] 26 (0, 0))) := by rw [hW]; exact blkNew _ _ (by simp)
  have hzW := (Array.getElem?_eq_some_iff.1 K6.out).1
  have H := Lib.hid (h.stay (kpB Hb0.out))
  have H' := Lib.hid (h'.stay (kpB Hb0.out))
  have HW := Lib.hid hW
  clear h h' hW
  obtain ⟨c0, c1, _, _⟩ := blk2 K4.out
  obtain ⟨e0, e1, _, _⟩ := blk2 K5.out
  rw [HW.out] at c0 c1 e0 e1
  have HC := Lib.hid (product_c g 40 fE cE _ _ _ _ A B W H.out H'.out hA hB hbE hE (by omega))
  clear hA hB hbE hE H H' K4 K5
  go_enter Try.func109, Try.ntmps109
  go_wp2_with fail
  clear c0 c1 e0 e1
  rw [← HW.out]
  refine HC.out.mono ?_
  rintro e w2 ⟨vN, vE, vM, ok, rfl, hb2, hx⟩
  have KR := Lib.hid (blkBel hb2 K6.out)
  have hB2 := Lib.hid (Hb0.out.trans (hb2.mono Hb0.out.size))
  have hz2 := hb2.size
  clear HC K6 HW hb2
  rcases hx.out with ⟨rfl, k, h1, h2, h3, _⟩ | ⟨rfl, rfl, rfl, _, h4⟩
  · have hno : ¬ pbig A B 40 := pbig_not h1 h2
    have HN := Lib.hid hno
    have Hok := Lib.hid (pair_ok (g := g) h1 h2)
    have Hlg := Lib.hid (pair_lg (g := g) h1)
    have HD3 := Lib.hid h3
    clear hx h1 h2 h3 hno
    generalize autD (pn A B) (pe g A B) (rnd (pn A B) (0, 0) k) = X at *
    obtain ⟨a1, ca1, b1, cb1, rfl, rfl, _, _⟩ := HD3.out.rd.shapes
    obtain ⟨W3, hW3⟩ : ∃ W3, W3 = w2.alloc (.cells #[.slice a1 X.1.length ca1, .slice b1 X.2.length cb1] 26) := ⟨_, rfl⟩
    have hb3 : Below w2.heap.size w2 W3 := by rw [hW3]; exact (Below.refl _ _).alloc (Nat.le_refl _) _
    have K8 : Hid (W3.heap[w2.heap.size]? = some (.cells #[.slice a1 X.1.length ca1, .slice b1 X.2.length cb1] 26 (0, 0))) := by rw [hW3]; exact blkNew _ _ rfl
    have HX3 := Lib.hid (HD3.out.rd.stay (kpB hb3))
    have KR3 := Lib.hid (blkBel hb3 KR.out)
    have hB3 := Lib.hid (hB2.out.trans (hb3.mono hB2.out.size))
    have hz3 := hb3.size
    have HW3 := Lib.hid hW3
    obtain ⟨d0, d1, _, _⟩ := blk2 K8.out
    rw [HW3.out] at d0 d1
    clear hW3 hb3 KR HD3
    go_wp2_with fail
    clear d0 d1
    rw [← HW3.out]
    refine (minimize_c _ _ X W3 HX3.out Hok.out).mono ?_
    rintro e w6 ⟨r1, r2, rfl, hb6, hd⟩
    rw [Hlg.out] at hd
    have Hsb : Hid (sbD g A B = canon (lg (pn A B) (pe g A B) (0, 0))) := orNo_pos HN.out _
    generalize canon (lg (pn A B) (pe g A B) (0, 0)) = C at *
    obtain ⟨a1, ca1, b1, cb1, rfl, rfl, _, _⟩ := hd.out.rd.shapes
    have KR := Lib.hid (blkBel hb6 KR3.out)
    have HBR := Lib.hid (hB3.out.trans (hb6.mono hB3.out.size))
    have hsz6 := hb6.size
    clear hb6 Hok Hlg HX3 K8 HW3
    obtain ⟨z0, z1, y0, y1⟩ := blk2 KR.out
    go_wp2
    have f0 := cell_setOther (o := 1) (u := .slice b1 C.2.length cb1) (cell_setSame (u := .slice a1 C.1.length ca1) z0) (by omega)
    have f1 := cell_setSame (u := .slice b1 C.2.length cb1) (cell_setOther (o := 0) (u := .slice a1 C.1.length ca1) z1 (by omega))
    refine bodyPost_ret (v := .tuple #[.agg #[.slice a1 C.1.length ca1, .slice b1 C.2.length cb1], .bool true]) (by simp [results, Try.results109, go_sem, f0, f1]) rfl ?_
    rw [Hsb.out]
    exact RDb.fin HBR.out (by omega) ⟨fun _ => HN.out, fun _ => rfl⟩ (hd.out.mono (fun x hx => ⟨⟨by omega, hx.2⟩, by omega⟩))
  · have hno : Hid (¬ ¬ pbig A B 40) := fun h => h h4
    have Hsb : Hid (sbD g A B = ([], [])) := orNo_neg hno.out _
    have HBR := Lib.hid (hB2.out.alloc hB2.out.size (.cells #[.slice none 0 0, .slice none 0 0] 26))
    replace KR := Lib.hid (blkOld (o := .cells #[.slice none 0 0, .slice none 0 0] 26) KR.out)
    have hzA : (w2.alloc (.cells #[.slice none 0 0, .slice none 0 0] 26)).heap.size = w2.heap.size + 1 := World.size_alloc _ _
    have HzA := Lib.hid hzA
    clear hzA
    clear hx
    obtain ⟨z0, z1, y0, y1⟩ := blk2 KR.out
    go_wp2
    have f0 := cell_setOther (o := 1) (u := .slice none 0 0) (cell_setSame (u := .slice none 0 0) z0) (by omega)
    have f1 := cell_setSame (u := .slice none 0 0) (cell_setOther (o := 0) (u := .slice none 0 0) z1 (by omega))
    refine bodyPost_ret (v := .tuple #[.agg #[.slice none 0 0, .slice none 0 0], .bool false]) (by simp [results, Try.results109, go_sem, f0, f1]) rfl ?_
    rw [Hsb.out]
    have hzA := HzA.out
    refine RDb.fin HBR.out (by omega) ⟨nofun, fun h => absurd h hno.out⟩ (dfaNil (q := w.heap.size) ⟨⟨Nat.le_refl _, by omega⟩, by omega⟩ ⟨w.heap.size + 1, ⟨⟨by omega, by omega⟩, by omega⟩, by omega⟩)
set_option maxHeartbeats 1000000 in
theorem sided_c (g : Bool → Bool → Bool) (fE : FuncId) (cE : Array Value) (vn ve un ue : Value) (A B : DfaD) (w : World) (h : DfaR S w vn ve A) (h' : DfaR T w un ue B)
    (hbE : HasBody fE) (hE : ∀ x y w, Calls Try.prog fE (#[.bool x, .bool y] ++ cE) w (RB w (g x y = true))) :
    Calls Try.prog 84 #[.agg #[vn, ve], .agg #[un, ue], .func (.func fE) #[] cE] w (RDb (prD g A B) (prP A B) w) := by
  obtain ⟨a, ca, b, d, rfl, rfl, hn, hm1⟩ := h.shapes
  obtain ⟨a', ca', b', d', rfl, rfl, hn', hm1'⟩ := h'.shapes
  obtain ⟨W, hW⟩ : ∃ W, W = ((w.alloc (.cells #[.slice a A.1.length ca, .slice b A.2.length d] 26)).alloc (.cells #[.slice a' B.1.length ca', .slice b' B.2.length d'] 26)).alloc (.cells #[.slice none 0 0, .slice none 0 0] 26) := ⟨_, rfl⟩
  have Hb0 : Hid (Below w.heap.size w W) := by rw [hW]; exact (((Below.refl _ _).alloc (Nat.le_refl _) _).alloc (by simp) _).alloc (by simp; omega) _
  have K4 : Hid (W.heap[w.heap.size]? = some (.cells #[.slice a A.1.length ca, .slice b A.2.length d] 26 (0, 0))) := by rw [hW]; exact blkOld (blkOld (blkNew _ _ rfl))
  have K5 : Hid (W.heap[w.heap.size + 1]? = some (.cells #[.slice a' B.1.length ca', .slice b' B.2.length d'] 26 (0, 0))) := by rw [hW]; exact blkOld (blkNew _ _ (by simp))
  have K6 : Hid (W.heap[w.heap.size + 2]? = some (.cells #[.slice none 0 0, .slice none 0 0] 26 (0, 0))) := by rw [hW]; exact blkNew _ _ (by simp)
  have hzW := (Array.getElem?_eq_some_iff.1 K6.out).1
  have H := Lib.hid (h.stay (kpB Hb0.out))
  have H' := Lib.hid (h'.stay (kpB Hb0.out))
  have HW := Lib.hid hW
  clear h h' hW
  obtain ⟨c0, c1, _, _⟩ := blk2 K4.out
  obtain ⟨e0, e1, _, _⟩ := blk2 K5.out
  rw [HW.out] at c0 c1 e0 e1
  have HbE := Lib.hid hbE
  have HE := Lib.hid hE
  clear hbE hE
  go_enter Try.func84, Try.ntmps84
  go_wp2_with fail
  clear c0 c1 e0 e1
  rw [← HW.out]
  refine (DfaValid_c _ _ A W H.out).mono ?_
  rintro e w1 ⟨ok, rfl, hb1, hok⟩
  have hB1 := Lib.hid (Hb0.out.trans (hb1.mono Hb0.out.size))
  have KR := Lib.hid (blkBel hb1 K6.out)
  have K51 := Lib.hid (blkBel hb1 K5.out)
  have K41 := Lib.hid (blkBel hb1 K4.out)
  have H1 := Lib.hid (H.out.stay (kpB hb1))
  have H1' := Lib.hid (H'.out.stay (kpB hb1))
  have hz1 := hb1.size
  clear hb1 K6 K5 K4 H H' HW
  obtain ⟨c0, c1, _, _⟩ := blk2 K41.out
  obtain ⟨e0, e1, _, _⟩ := blk2 K51.out
  cases ok
  · have hno : Hid (¬ prP A B) := fun h => hbF hok h.1
    have hnA := Lib.hid (hbF hok)
    have HBR := hB1
    clear hok
    obtain ⟨z0, z1, y0, y1⟩ := blk2 KR.out
    go_wp2
    have f0 := cell_setOther (o := 1) (u := .slice none 0 0) (cell_setSame (u := .slice none 0 0) z0) (by omega)
    have f1 := cell_setSame (u := .slice none 0 0) (cell_setOther (o := 0) (u := .slice none 0 0) z1 (by omega))
    refine bodyPost_ret (v := .tuple #[.agg #[.slice none 0 0, .slice none 0 0], .bool false]) (by simp [results, Try.results84, go_sem, f0, f1]) rfl ?_
    rw [prD_neg (fun h => hnA.out h.1)]
    refine RDb.fin HBR.out (by omega) ⟨nofun, fun h => absurd h hno.out⟩ (dfaNil (q := w.heap.size) ⟨⟨Nat.le_refl _, by omega⟩, by omega⟩ ⟨w.heap.size + 1, ⟨⟨by omega, by omega⟩, by omega⟩, by omega⟩)
  · have hyA := Lib.hid (hbT hok)
    clear hok
    go_wp2_with fail
    clear c0 c1 e0 e1
    refine (DfaValid_c _ _ B w1 H1'.out).mono ?_
    rintro e w2 ⟨ok, rfl, hb2, hok⟩
    have hB2 := Lib.hid (hB1.out.trans (hb2.mono hB1.out.size))
    have KR2 := Lib.hid (blkBel hb2 KR.out)
    have K52 := Lib.hid (blkBel hb2 K51.out)
    have K42 := Lib.hid (blkBel hb2 K41.out)
    have H2 := Lib.hid (H1.out.stay (kpB hb2))
    have H2' := Lib.hid (H1'.out.stay (kpB hb2))
    have hz2 := hb2.size
    clear hb2 KR K51 K41 H1 H1' hB1
    obtain ⟨c0, c1, _, _⟩ := blk2 K42.out
    obtain ⟨e0, e1, _, _⟩ := blk2 K52.out
    cases ok
    · have hno : Hid (¬ prP A B) := fun h => hbF hok h.2.1
      have hnB := Lib.hid (hbF hok)
      have HBR := hB2
      have KR := KR2
      clear hok
      obtain ⟨z0, z1, y0, y1⟩ := blk2 KR.out
      go_wp2
      have f0 := cell_setOther (o := 1) (u := .slice none 0 0) (cell_setSame (u := .slice none 0 0) z0) (by omega)
      have f1 := cell_setSame (u := .slice none 0 0) (cell_setOther (o := 0) (u := .slice none 0 0) z1 (by omega))
      refine bodyPost_ret (v := .tuple #[.agg #[.slice none 0 0, .slice none 0 0], .bool false]) (by simp [results, Try.results84, go_sem, f0, f1]) rfl ?_
      rw [prD_neg (fun h => hnB.out h.2)]
      refine RDb.fin HBR.out (by omega) ⟨nofun, fun h => absurd h hno.out⟩ (dfaNil (q := w.heap.size) ⟨⟨Nat.le_refl _, by omega⟩, by omega⟩ ⟨w.heap.size + 1, ⟨⟨by omega, by omega⟩, by omega⟩, by omega⟩)
    · have hyB := Lib.hid (hbT hok)
      clear hok
      go_wp2_with fail
      clear c0 c1 e0 e1
      refine (sideBySide_c g fE cE _ _ _ _ A B w2 H2.out H2'.out hyA.out hyB.out HbE.out HE.out).mono ?_
      rintro e w6 ⟨r1, r2, bq, rfl, hb6, hp, hd⟩
      have Hpd := Lib.hid (prD_pos (g := g) hyA.out hyB.out)
      have Hpp : Hid (bq = true ↔ prP A B) := hp.out.trans ⟨fun h => ⟨hyA.out, hyB.out, h⟩, fun h => h.2.2⟩
      generalize sbD g A B = C at *
      obtain ⟨a1, ca1, b1, cb1, rfl, rfl, _, _⟩ := hd.out.rd.shapes
      have KR := Lib.hid (blkBel hb6 KR2.out)
      have HBR := Lib.hid (hB2.out.trans (hb6.mono hB2.out.size))
      have hsz6 := hb6.size
      clear hb6 hp KR2 K52 K42
      obtain ⟨z0, z1, y0, y1⟩ := blk2 KR.out
      go_wp2
      have f0 := cell_setOther (o := 1) (u := .slice b1 C.2.length cb1) (cell_setSame (u := .slice a1 C.1.length ca1) z0) (by omega)
      have f1 := cell_setSame (u := .slice b1 C.2.length cb1) (cell_setOther (o := 0) (u := .slice a1 C.1.length ca1) z1 (by omega))
      refine bodyPost_ret (v := .tuple #[.agg #[.slice a1 C.1.length ca1, .slice b1 C.2.length cb1], .bool bq]) (by simp [results, Try.results84, go_sem, f0, f1]) rfl ?_
      rw [Hpd.out]
      exact RDb.fin HBR.out (by omega) Hpp (hd.out.mono (fun x hx => ⟨⟨by omega, hx.2⟩, by omega⟩))
theorem DfaBoth_g (x y : Bool) (w : World) : Calls Try.prog 90 (#[.bool x, .bool y] ++ #[]) w (RB w (gBoth x y = true)) := by
  cases x <;> cases y
  all_goals (
    go_enter Try.func90, Try.ntmps90
    go_wp2
    go_ret
    exact RB.mk (by decide))
theorem body_DfaBoth : HasBody 90 := by
  intro args w
  kernel_rfl
set_option maxHeartbeats 1000000 in
theorem DfaBoth_c (vn ve un ue : Value) (A B : DfaD) (w : World) (h : DfaR S w vn ve A) (h' : DfaR T w un ue B) :
    Calls Try.prog 50 #[.agg #[vn, ve], .agg #[un, ue]] w (RDb (prD gBoth A B) (prP A B) w) := by
  obtain ⟨a, ca, b, d, rfl, rfl, hn, hm1⟩ := h.shapes
  obtain ⟨a', ca', b', d', rfl, rfl, hn', hm1'⟩ := h'.shapes
  obtain ⟨W, hW⟩ : ∃ W, W = ((w.alloc (.cells #[.slice a A.1.length ca, .slice b A.2.length d] 26)).alloc (.cells #[.slice a' B.1.length ca', .slice b' B.2.length d'] 26)).alloc (.cells #[.slice none 0 0, .slice none 0 0] 26) := ⟨_, rfl⟩
  have Hb0 : Hid (Below w.heap.size w W) := by rw [hW]; exact (((Below.refl _ _).alloc (Nat.le_refl _) _).alloc (by simp) _).alloc (by simp; omega) _
  have K4 : Hid (W.heap[w.heap.size]? = some (.cells #[.slice a A.1.length ca, .slice b A.2.length d] 26 (0, 0))) := by rw [hW]; exact blkOld (blkOld (blkNew _ _ rfl))
  have K5 : Hid (W.heap[w.heap.size + 1]? = some (.cells #[.slice a' B.1.length ca', .slice b' B.2.length d'] 26 (0, 0))) := by rw [hW]; exact blkOld (blkNew _ _ (by simp))
  have K6 : Hid (W.heap[w.heap.size + 2]? = some (.cells #[.slice none 0 0, .slice none 0 0] 26 (0, 0))) := by rw [hW]; exact blkNew _ _ (by simp)
  have hzW := (Array.getElem?_eq_some_iff.1 K6.out).1
  have H := Lib.hid (h.stay (kpB Hb0.out))
  have H' := Lib.hid (h'.stay (kpB Hb0.out))
  have HW := Lib.hid hW
  clear h h' hW
  obtain ⟨c0, c1, _, _⟩ := blk2 K4.out
  obtain ⟨e0, e1, _, _⟩ := blk2 K5.out
  rw [HW.out] at c0 c1 e0 e1
  have HC := Lib.hid (sided_c gBoth 90 #[] _ _ _ _ A B W H.out H'.out body_DfaBoth DfaBoth_g)
  clear H H' K4 K5
  go_enter Try.func50, Try.ntmps50
  go_wp2_with fail
  clear c0 c1 e0 e1
  rw [← HW.out]
  refine HC.out.mono ?_
  rintro e w6 ⟨r1, r2, bq, rfl, hb6, Hpp, hd⟩
  generalize prD gBoth A B = C at *
  obtain ⟨a1, ca1, b1, cb1, rfl, rfl, _, _⟩ := hd.out.rd.shapes
  have KR := Lib.hid (blkBel hb6 K6.out)
  have HBR := Lib.hid (Hb0.out.trans (hb6.mono Hb0.out.size))
  have hsz6 := hb6.size
  clear hb6 K6 HC HW
  obtain ⟨z0, z1, y0, y1⟩ := blk2 KR.out
  go_wp2
  have f0 := cell_setOther (o := 1) (u := .slice b1 C.2.length cb1) (cell_setSame (u := .slice a1 C.1.length ca1) z0) (by omega)
  have f1 := cell_setSame (u := .slice b1 C.2.length cb1) (cell_setOther (o := 0) (u := .slice a1 C.1.length ca1) z1 (by omega))
  refine bodyPost_ret (v := .tuple #[.agg #[.slice a1 C.1.length ca1, .slice b1 C.2.length cb1], .bool bq]) (by simp [results, Try.results50, go_sem, f0, f1]) rfl ?_
  skip
  exact RDb.fin HBR.out (by omega) Hpp (hd.out.mono (fun x hx => ⟨⟨by omega, hx.2⟩, by omega⟩))
theorem DfaEither_g (x y : Bool) (w : World) : Calls Try.prog 88 (#[.bool x, .bool y] ++ #[]) w (RB w (gEither x y = true)) := by
  cases x <;> cases y
  all_goals (
    go_enter Try.func88, Try.ntmps88
    go_wp2
    go_ret
    exact RB.mk (by decide))
theorem body_DfaEither : HasBody 88 := by
  intro args w
  kernel_rfl
set_option maxHeartbeats 1000000 in
theorem DfaEither_c (vn ve un ue : Value) (A B : DfaD) (w : World) (h : DfaR S w vn ve A) (h' : DfaR T w un ue B) :
    Calls Try.prog 47 #[.agg #[vn, ve], .agg #[un, ue]] w (RDb (prD gEither A B) (prP A B) w) := by
  obtain ⟨a, ca, b, d, rfl, rfl, hn, hm1⟩ := h.shapes
  obtain ⟨a', ca', b', d', rfl, rfl, hn', hm1'⟩ := h'.shapes
  obtain ⟨W, hW⟩ : ∃ W, W = ((w.alloc (.cells #[.slice a A.1.length ca, .slice b A.2.length d] 26)).alloc (.cells #[.slice a' B.1.length ca', .slice b' B.2.length d'] 26)).alloc (.cells #[.slice none 0 0, .slice none 0 0] 26) := ⟨_, rfl⟩
  have Hb0 : Hid (Below w.heap.size w W) := by rw [hW]; exact (((Below.refl _ _).alloc (Nat.le_refl _) _).alloc (by simp) _).alloc (by simp; omega) _
  have K4 : Hid (W.heap[w.heap.size]? = some (.cells #[.slice a A.1.length ca, .slice b A.2.length d] 26 (0, 0))) := by rw [hW]; exact blkOld (blkOld (blkNew _ _ rfl))
  have K5 : Hid (W.heap[w.heap.size + 1]? = some (.cells #[.slice a' B.1.length ca', .slice b' B.2.length d'] 26 (0, 0))) := by rw [hW]; exact blkOld (blkNew _ _ (by simp))
  have K6 : Hid (W.heap[w.heap.size + 2]? = some (.cells #[.slice none 0 0, .slice none 0 0] 26 (0, 0))) := by rw [hW]; exact blkNew _ _ (by simp)
  have hzW := (Array.getElem?_eq_some_iff.1 K6.out).1
  have H := Lib.hid (h.stay (kpB Hb0.out))
  have H' := Lib.hid (h'.stay (kpB Hb0.out))
  have HW := Lib.hid hW
  clear h h' hW
  obtain ⟨c0, c1, _, _⟩ := blk2 K4.out
  obtain ⟨e0, e1, _, _⟩ := blk2 K5.out
  rw [HW.out] at c0 c1 e0 e1
  have HC := Lib.hid (sided_c gEither 88 #[] _ _ _ _ A B W H.out H'.out body_DfaEither DfaEither_g)
  clear H H' K4 K5
  go_enter Try.func47, Try.ntmps47
  go_wp2_with fail
  clear c0 c1 e0 e1
  rw [← HW.out]
  refine HC.out.mono ?_
  rintro e w6 ⟨r1, r2, bq, rfl, hb6, Hpp, hd⟩
  generalize prD gEither A B = C at *
  obtain ⟨a1, ca1, b1, cb1, rfl, rfl, _, _⟩ := hd.out.rd.shapes
  have KR := Lib.hid (blkBel hb6 K6.out)
  have HBR := Lib.hid (Hb0.out.trans (hb6.mono Hb0.out.size))
  have hsz6 := hb6.size
  clear hb6 K6 HC HW
  obtain ⟨z0, z1, y0, y1⟩ := blk2 KR.out
  go_wp2
  have f0 := cell_setOther (o := 1) (u := .slice b1 C.2.length cb1) (cell_setSame (u := .slice a1 C.1.length ca1) z0) (by omega)
  have f1 := cell_setSame (u := .slice b1 C.2.length cb1) (cell_setOther (o := 0) (u := .slice a1 C.1.length ca1) z1 (by omega))
  refine bodyPost_ret (v := .tuple #[.agg #[.slice a1 C.1.length ca1, .slice b1 C.2.length cb1], .bool bq]) (by simp [results, Try.results47, go_sem, f0, f1]) rfl ?_
  skip
  exact RDb.fin HBR.out (by omega) Hpp (hd.out.mono (fun x hx => ⟨⟨by omega, hx.2⟩, by omega⟩))
theorem DfaLess_g (x y : Bool) (w : World) : Calls Try.prog 87 (#[.bool x, .bool y] ++ #[]) w (RB w (gLess x y = true)) := by
  cases x <;> cases y
  all_goals (
    go_enter Try.func87, Try.ntmps87
    go_wp2
    go_ret
    exact RB.mk (by decide))
theorem body_DfaLess : HasBody 87 := by
  intro args w
  kernel_rfl
set_option maxHeartbeats 1000000 in
theorem DfaLess_c (vn ve un ue : Value) (A B : DfaD) (w : World) (h : DfaR S w vn ve A) (h' : DfaR T w un ue B) :
    Calls Try.prog 46 #[.agg #[vn, ve], .agg #[un, ue]] w (RDb (prD gLess A B) (prP A B) w) := by
  obtain ⟨a, ca, b, d, rfl, rfl, hn, hm1⟩ := h.shapes
  obtain ⟨a', ca', b', d', rfl, rfl, hn', hm1'⟩ := h'.shapes
  obtain ⟨W, hW⟩ : ∃ W, W = ((w.alloc (.cells #[.slice a A.1.length ca, .slice b A.2.length d] 26)).alloc (.cells #[.slice a' B.1.length ca', .slice b' B.2.length d'] 26)).alloc (.cells #[.slice none 0 0, .slice none 0 0] 26) := ⟨_, rfl⟩
  have Hb0 : Hid (Below w.heap.size w W) := by rw [hW]; exact (((Below.refl _ _).alloc (Nat.le_refl _) _).alloc (by simp) _).alloc (by simp; omega) _
  have K4 : Hid (W.heap[w.heap.size]? = some (.cells #[.slice a A.1.length ca, .slice b A.2.length d] 26 (0, 0))) := by rw [hW]; exact blkOld (blkOld (blkNew _ _ rfl))
  have K5 : Hid (W.heap[w.heap.size + 1]? = some (.cells #[.slice a' B.1.length ca', .slice b' B.2.length d'] 26 (0, 0))) := by rw [hW]; exact blkOld (blkNew _ _ (by simp))
  have K6 : Hid (W.heap[w.heap.size + 2]? = some (.cells #[.slice none 0 0, .slice none 0 0] 26 (0, 0))) := by rw [hW]; exact blkNew _ _ (by simp)
  have hzW := (Array.getElem?_eq_some_iff.1 K6.out).1
  have H := Lib.hid (h.stay (kpB Hb0.out))
  have H' := Lib.hid (h'.stay (kpB Hb0.out))
  have HW := Lib.hid hW
  clear h h' hW
  obtain ⟨c0, c1, _, _⟩ := blk2 K4.out
  obtain ⟨e0, e1, _, _⟩ := blk2 K5.out
  rw [HW.out] at c0 c1 e0 e1
  have HC := Lib.hid (sided_c gLess 87 #[] _ _ _ _ A B W H.out H'.out body_DfaLess DfaLess_g)
  clear H H' K4 K5
  go_enter Try.func46, Try.ntmps46
  go_wp2_with fail
  clear c0 c1 e0 e1
  rw [← HW.out]
  refine HC.out.mono ?_
  rintro e w6 ⟨r1, r2, bq, rfl, hb6, Hpp, hd⟩
  generalize prD gLess A B = C at *
  obtain ⟨a1, ca1, b1, cb1, rfl, rfl, _, _⟩ := hd.out.rd.shapes
  have KR := Lib.hid (blkBel hb6 K6.out)
  have HBR := Lib.hid (Hb0.out.trans (hb6.mono Hb0.out.size))
  have hsz6 := hb6.size
  clear hb6 K6 HC HW
  obtain ⟨z0, z1, y0, y1⟩ := blk2 KR.out
  go_wp2
  have f0 := cell_setOther (o := 1) (u := .slice b1 C.2.length cb1) (cell_setSame (u := .slice a1 C.1.length ca1) z0) (by omega)
  have f1 := cell_setSame (u := .slice b1 C.2.length cb1) (cell_setOther (o := 0) (u := .slice a1 C.1.length ca1) z1 (by omega))
  refine bodyPost_ret (v := .tuple #[.agg #[.slice a1 C.1.length ca1, .slice b1 C.2.length cb1], .bool bq]) (by simp [results, Try.results46, go_sem, f0, f1]) rfl ?_
  skip
  exact RDb.fin HBR.out (by omega) Hpp (hd.out.mono (fun x hx => ⟨⟨by omega, hx.2⟩, by omega⟩))
theorem DfaApart_g (x y : Bool) (w : World) : Calls Try.prog 85 (#[.bool x, .bool y] ++ #[]) w (RB w (gApart x y = true)) := by
  cases x <;> cases y
  all_goals (
    go_enter Try.func85, Try.ntmps85
    go_wp2
    go_ret
    exact RB.mk (by decide))
theorem body_DfaApart : HasBody 85 := by
  intro args w
  kernel_rfl
set_option maxHeartbeats 1000000 in
theorem DfaApart_c (vn ve un ue : Value) (A B : DfaD) (w : World) (h : DfaR S w vn ve A) (h' : DfaR T w un ue B) :
    Calls Try.prog 44 #[.agg #[vn, ve], .agg #[un, ue]] w (RDb (prD gApart A B) (prP A B) w) := by
  obtain ⟨a, ca, b, d, rfl, rfl, hn, hm1⟩ := h.shapes
  obtain ⟨a', ca', b', d', rfl, rfl, hn', hm1'⟩ := h'.shapes
  obtain ⟨W, hW⟩ : ∃ W, W = ((w.alloc (.cells #[.slice a A.1.length ca, .slice b A.2.length d] 26)).alloc (.cells #[.slice a' B.1.length ca', .slice b' B.2.length d'] 26)).alloc (.cells #[.slice none 0 0, .slice none 0 0] 26) := ⟨_, rfl⟩
  have Hb0 : Hid (Below w.heap.size w W) := by rw [hW]; exact (((Below.refl _ _).alloc (Nat.le_refl _) _).alloc (by simp) _).alloc (by simp; omega) _
  have K4 : Hid (W.heap[w.heap.size]? = some (.cells #[.slice a A.1.length ca, .slice b A.2.length d] 26 (0, 0))) := by rw [hW]; exact blkOld (blkOld (blkNew _ _ rfl))
  have K5 : Hid (W.heap[w.heap.size + 1]? = some (.cells #[.slice a' B.1.length ca', .slice b' B.2.length d'] 26 (0, 0))) := by rw [hW]; exact blkOld (blkNew _ _ (by simp))
  have K6 : Hid (W.heap[w.heap.size + 2]? = some (.cells #[.slice none 0 0, .slice none 0 0] 26 (0, 0))) := by rw [hW]; exact blkNew _ _ (by simp)
  have hzW := (Array.getElem?_eq_some_iff.1 K6.out).1
  have H := Lib.hid (h.stay (kpB Hb0.out))
  have H' := Lib.hid (h'.stay (kpB Hb0.out))
  have HW := Lib.hid hW
  clear h h' hW
  obtain ⟨c0, c1, _, _⟩ := blk2 K4.out
  obtain ⟨e0, e1, _, _⟩ := blk2 K5.out
  rw [HW.out] at c0 c1 e0 e1
  have HC := Lib.hid (sided_c gApart 85 #[] _ _ _ _ A B W H.out H'.out body_DfaApart DfaApart_g)
  clear H H' K4 K5
  go_enter Try.func44, Try.ntmps44
  go_wp2_with fail
  clear c0 c1 e0 e1
  rw [← HW.out]
  refine HC.out.mono ?_
  rintro e w6 ⟨r1, r2, bq, rfl, hb6, Hpp, hd⟩
  generalize prD gApart A B = C at *
  obtain ⟨a1, ca1, b1, cb1, rfl, rfl, _, _⟩ := hd.out.rd.shapes
  have KR := Lib.hid (blkBel hb6 K6.out)
  have HBR := Lib.hid (Hb0.out.trans (hb6.mono Hb0.out.size))
  have hsz6 := hb6.size
  clear hb6 K6 HC HW
  obtain ⟨z0, z1, y0, y1⟩ := blk2 KR.out
  go_wp2
  have f0 := cell_setOther (o := 1) (u := .slice b1 C.2.length cb1) (cell_setSame (u := .slice a1 C.1.length ca1) z0) (by omega)
  have f1 := cell_setSame (u := .slice b1 C.2.length cb1) (cell_setOther (o := 0) (u := .slice a1 C.1.length ca1) z1 (by omega))
  refine bodyPost_ret (v := .tuple #[.agg #[.slice a1 C.1.length ca1, .slice b1 C.2.length cb1], .bool bq]) (by simp [results, Try.results44, go_sem, f0, f1]) rfl ?_
  skip
  exact RDb.fin HBR.out (by omega) Hpp (hd.out.mono (fun x hx => ⟨⟨by omega, hx.2⟩, by omega⟩))
end Go.Proofs.Ytebcnamfpajneaa
namespace Go.Proofs.Ytebcnamfpajneaa
open Go.RowKit
theorem rnd_fix {α : Type} [DecidableEq α] (nx : α → Nat → α) (s0 : α) {n : Nat} (h : (rnd nx s0 n).length ≤ n) : ∃ k, k ≤ n ∧ (rnd nx s0 k).length = k := by
  induction n with
  | zero => exact ⟨0, Nat.le_refl _, by omega⟩
  | succ n ih =>
    rcases Nat.lt_or_ge n (rnd nx s0 n).length with h1 | h1
    · exact ⟨n + 1, Nat.le_refl _, Nat.le_antisymm h (Nat.le_trans h1 (rnd_pre_succ nx s0 n).length_le)⟩
    · obtain ⟨k, hk, he⟩ := ih h1
      exact ⟨k, by omega, he⟩
theorem pr_ok {g : Bool → Bool → Bool} {A B : DfaD} (h : prP A B) : okD (canon (lg (pn A B) (pe g A B) (0, 0))) := by
  have h40 : (rnd (pn A B) (0, 0) 40).length ≤ 40 := Nat.le_of_not_lt fun hl => h.2.2 ⟨40, hl⟩
  obtain ⟨k, hk, he⟩ := rnd_fix (pn A B) (0, 0) h40
  have := canon_ok (pair_ok (g := g) he hk)
  rw [pair_lg he] at this
  exact this
theorem prSmall (g : Bool → Bool → Bool) (A B : DfaD) : smallD (prD g A B) := orNo_small pr_ok
theorem dfaBoxed {v : World} {lo lo' g : Nat} {x y a c : Value} {q : DfaD} (hd : DfaW (fun b => lo' ≤ b ∧ b < v.heap.size) v x y q) (hg : g < lo') (hlo : lo ≤ lo') :
    DfaW (fun b => lo ≤ b ∧ b < ((v.setCell ⟨g, 0, none⟩ a).setCell ⟨g, 1, none⟩ c).heap.size) ((v.setCell ⟨g, 0, none⟩ a).setCell ⟨g, 1, none⟩ c) x y q := by
  refine ((hd.mono (T := fun b => g < b ∧ lo ≤ b ∧ b < v.heap.size) (fun b h => ⟨by omega, by omega, h.2⟩)).stay (fun b h1 _ => ?_)).mono (fun b h => ⟨h.2.1, by simp [World.setCell]; exact h.2.2⟩)
  have hne : b ≠ g := by omega
  rw [Below.heap_setCell _ _ _ _ hne, Below.heap_setCell _ _ _ _ hne]
end Go.Proofs.Ytebcnamfpajneaa
namespace Go.Proofs.Ytebcnamfpajneaa
open Go.RowKit
theorem canon_lgD {D : DfaD} (h : okD D) : lgD (canon (lgD D)) = lgD D := by
  rw [← small_eq h, trim_lg (sml_ok (trim_ok h))]
  show lg _ _ 0 = _
  rw [sml_lg (trim_ok h) (trim_ok h).1.1]
  exact trim_lg h
theorem lg_pair (g : Bool → Bool → Bool) (A B : DfaD) : ∀ (w : List (Fin 3)) (s : Nat × Nat), lg (pn A B) (pe g A B) s w = g (lg (dn A) (de A) s.1 w) (lg (dn B) (de B) s.2 w)
  | [], _ => rfl
  | c :: w, s => lg_pair g A B w (pn A B s c)
/-- The language of two automata side by side. -/
def lgP (g : Bool → Bool → Bool) (A B : DfaD) : Lg := fun w => g (lgD A w) (lgD B w)
theorem lgP_eq (g : Bool → Bool → Bool) (A B : DfaD) : lg (pn A B) (pe g A B) (0, 0) = lgP g A B := funext fun w => lg_pair g A B w (0, 0)
theorem prD_eq (g : Bool → Bool → Bool) {A B : DfaD} (h : prP A B) : prD g A B = canon (lgP g A B) := by unfold prD; rw [orNo_pos h, lgP_eq]
theorem prD_no (g : Bool → Bool → Bool) {A B : DfaD} (h : ¬ prP A B) : prD g A B = ([], []) := orNo_neg h _
theorem pr_fix {A B : DfaD} (h : prP A B) : ∃ k, k ≤ 40 ∧ (rnd (pn A B) (0, 0) k).length = k := by
  have hb : (rnd (pn A B) (0, 0) 40).length ≤ 40 := Classical.byContradiction fun hn => h.2.2 ⟨40, by omega⟩
  exact rnd_fix _ _ hb
theorem lgP_lg (g : Bool → Bool → Bool) {A B : DfaD} (h : prP A B) : ∃ E : DfaD, okD E ∧ lgD E = lgP g A B := by
  obtain ⟨k, hk, hf⟩ := pr_fix h
  exact ⟨_, pair_ok (g := g) hf hk, by rw [pair_lg hf, lgP_eq]⟩
theorem prD_ok (g : Bool → Bool → Bool) {A B : DfaD} (h : prP A B) : okD (prD g A B) := by
  obtain ⟨E, hE, he⟩ := lgP_lg g h
  rw [prD_eq g h, ← he]; exact canon_ok hE
theorem prD_lg (g : Bool → Bool → Bool) {A B : DfaD} (h : prP A B) : lgD (prD g A B) = lgP g A B := by
  obtain ⟨E, hE, he⟩ := lgP_lg g h
  rw [prD_eq g h, ← he, canon_lgD hE]
theorem not_ok_nil : ¬ okD ([], []) := fun h => by have := h.1.1; simp at this
/-- Apart is one without the other. -/
theorem law_apart {A B : DfaD} (h : prP A B) (h2 : prP (prD gLess A B) (prD gLess B A)) : prD gApart A B = prD gEither (prD gLess A B) (prD gLess B A) := by
  have h3 : prP A B := h
  have h4 : prP B A := Classical.byContradiction fun hn => not_ok_nil (by have := h2.2.1; rwa [prD_no _ hn] at this)
  rw [prD_eq _ h, prD_eq _ h2]
  congr 1
  funext w
  show gApart (lgD A w) (lgD B w) = gEither (lgD (prD gLess A B) w) (lgD (prD gLess B A) w)
  rw [prD_lg _ h, prD_lg _ h4]
  show gApart (lgD A w) (lgD B w) = gEither (gLess (lgD A w) (lgD B w)) (gLess (lgD B w) (lgD A w))
  cases lgD A w <;> cases lgD B w <;> rfl
end Go.Proofs.Ytebcnamfpajneaa
