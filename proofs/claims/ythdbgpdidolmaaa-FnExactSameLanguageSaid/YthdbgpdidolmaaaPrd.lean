/- Two automata side by side: the program's. -/
import Derived.Test.YthdbgpdidolmaaaXpp
import Derived.Test.YthdbgpdidolmaaaTrl
import Derived.Test.YthdbgpdidolmaaaMin
import Derived.Test.YthdbgpdidolmaaaMim
import Derived.Deep.RegionHeld3
import Derived.StillTailTactics
namespace Go.Proofs.Ythdbgpdidolmaaa
open Go.RowKit
set_option maxRecDepth 100000
variable {S T : Nat → Prop}
/-- Both move. -/
def pn (A B : DfaD) (s : Nat × Nat) (c : Nat) : Nat × Nat := (dn A s.1 c, dn B s.2 c)
/-- Both marks. -/
def pe (g : Bool → Bool → Bool) (A B : DfaD) (s : Nat × Nat) : Bool := g (de A s.1) (de B s.2)
/-- A pair of states. -/
def pst (A B : DfaD) (s : Nat × Nat) : Prop := s.1 < A.1.length ∧ s.2 < B.1.length
theorem pst_zero {A B : DfaD} (hA : okD A) (hB : okD B) : pst A B (0, 0) := ⟨hA.1.1, hB.1.1⟩
theorem pst_step {A B : DfaD} (hA : okD A) (hB : okD B) (s : Nat × Nat) (h : pst A B s) (c : Nat) (hc : c < 3) : pst A B (pn A B s c) := ⟨dn_lt hA h.1 hc, dn_lt hB h.2 hc⟩
theorem pst_small {A B : DfaD} (hA : okD A) (hB : okD B) (s : Nat × Nat) (h : pst A B s) : s.1 ≤ 1000000000 ∧ s.2 ≤ 1000000000 := by
  have h1 := h.1; have h2 := h.2; have h3 := hA.1.2; have h4 := hB.1.2
  omega
/-- More than n pairs are met. -/
def pbig (A B : DfaD) (n : Nat) : Prop := ∃ k, n < (rnd (pn A B) (0, 0) k).length
theorem pbig_not {A B : DfaD} {n k : Nat} (h : (rnd (pn A B) (0, 0) k).length = k) (hk : k ≤ n) : ¬ pbig A B n := fun ⟨j, hj⟩ => by
  rcases Nat.le_total k j with h1 | h1
  · rw [rnd_done (pn A B) (Nat.le_of_eq h) h1] at hj; omega
  · have := (rnd_pre (pn A B) (0, 0) h1).length_le; omega
theorem pair_ok {A B : DfaD} {g : Bool → Bool → Bool} {k : Nat} (h : (rnd (pn A B) (0, 0) k).length = k) (hk : k ≤ 40) : okD (autD (pn A B) (pe g A B) (rnd (pn A B) (0, 0) k)) :=
  aut_ok (by have := rnd_pos (pn A B) (0, 0) k; omega) (by omega) (rnd_closed (pn A B) (Nat.le_of_eq h))
theorem pair_lg {A B : DfaD} {g : Bool → Bool → Bool} {k : Nat} (h : (rnd (pn A B) (0, 0) k).length = k) : lgD (autD (pn A B) (pe g A B) (rnd (pn A B) (0, 0) k)) = lg (pn A B) (pe g A B) (0, 0) := by
  unfold lgD
  rw [aut_lgs (rnd_closed (pn A B) (Nat.le_of_eq h)) (rnd_pos _ _ _)]
  have h0 := rnd_zero (pn A B) (0, 0) k
  rw [List.getElem?_eq_getElem (rnd_pos _ _ _)] at h0
  injection h0 with h0
  rw [h0]
/-- Whether there is a result. -/
def prP (A B : DfaD) : Prop := okD A ∧ okD B ∧ ¬ pbig A B 40
/-- The smallest automaton of two side by side. -/
noncomputable def prD (g : Bool → Bool → Bool) (A B : DfaD) : DfaD := orNo (prP A B) (canon (lg (pn A B) (pe g A B) (0, 0)))
/-- The call answers an automaton in new memory, and whether there is one. -/
def RDb (D : DfaD) (p : Prop) (w : World) (e : Ending) (w' : World) : Prop :=
  ∃ v1 v2 b, e = .returned (.tuple #[.agg #[v1, v2], .bool b]) ∧ Below w.heap.size w w' ∧ Hid (b = true ↔ p) ∧ Hid (DfaW (fun b => w.heap.size ≤ b ∧ b < w'.heap.size) w' v1 v2 D)
set_option maxHeartbeats 1000000 in
theorem prodNext_c (vn ve un ue : Value) (A B : DfaD) (s : Nat × Nat) (c B4 B5 : Nat) (w : World) (h : DfaR S w vn ve A) (h' : DfaR T w un ue B) (hA : okD A) (hB : okD B) (hs : pst A B s) (hc : c < 3)
    (K4 : w.heap[B4]? = some (.cells #[vn, ve] 36 (0, 0))) (K5 : w.heap[B5]? = some (.cells #[un, ue] 36 (0, 0))) :
    Calls Try.prog 122 (#[.agg #[.int .i64 ((s.1 : Nat) : Int), .int .i64 ((s.2 : Nat) : Int)], .int .i64 c] ++ #[.pointer (some ⟨B4, 0, none⟩), .pointer (some ⟨B5, 0, none⟩)]) w (RPn (pn A B s c) w) := by
  obtain ⟨s1, s2⟩ := s
  obtain ⟨hs1, hs2⟩ := hs
  dsimp only at hs1 hs2 ⊢
  obtain ⟨a, ca, b, d, rfl, rfl, hn, hm⟩ := h.shapes
  obtain ⟨a', ca', b', d', rfl, rfl, hn', hm'⟩ := h'.shapes
  obtain ⟨bn, on, br, or_, cr, e1, x1, x2, x3⟩ := h.step hA hs1 hc
  cases e1
  obtain ⟨bn', on', br', or', cr', e1, y1, y2, y3⟩ := h'.step hB hs2 hc
  cases e1
  have hsI : (s1 : Int) < (A.1.length : Int) := by omega
  have hsI' : (s2 : Int) < (B.1.length : Int) := by omega
  have hcI : (c : Int) < 3 := by omega
  have Hpn : Hid (pn A B (s1, s2) c = (dn A s1 c, dn B s2 c)) := rfl
  generalize dn A s1 c = u at *
  generalize dn B s2 c = u' at *
  obtain ⟨W, hW⟩ : ∃ W, W = (w.alloc (.cells #[.int .i64 ((s1 : Nat) : Int), .int .i64 ((s2 : Nat) : Int)] 131)).alloc (.cells #[.int .i64 0, .int .i64 0] 131) := ⟨_, rfl⟩
  have hb0 : Below w.heap.size w W := by rw [hW]; exact ((Below.refl _ _).alloc (Nat.le_refl _) _).alloc (by simp) _
  have Kp4 : Hid (W.heap[w.heap.size]? = some (.cells #[.int .i64 ((s1 : Nat) : Int), .int .i64 ((s2 : Nat) : Int)] 131 (0, 0))) := by rw [hW]; exact blkOld (blkNew _ _ rfl)
  have Kp6 : Hid (W.heap[w.heap.size + 1]? = some (.cells #[.int .i64 0, .int .i64 0] 131 (0, 0))) := by rw [hW]; exact blkNew _ _ (by simp)
  have hkp := kpB (S := fun _ => True) hb0
  have z1 : W.drew.cell? ⟨B4, 0, none⟩ = some _ := hkp _ _ trivial (blk2 K4).1
  have z2 : W.drew.cell? ⟨B5, 0, none⟩ = some _ := hkp _ _ trivial (blk2 K5).1
  have x1' : W.drew.cell? _ = some _ := hkp _ _ trivial x1
  have x2' : W.drew.cell? _ = some _ := hkp _ _ trivial x2
  have y1' : W.drew.cell? _ = some _ := hkp _ _ trivial y1
  have y2' : W.drew.cell? _ = some _ := hkp _ _ trivial y2
  obtain ⟨p0, p1, _, _⟩ := blk2 Kp4.out
  obtain ⟨r0, r1, f0, f1⟩ := blk2 Kp6.out
  have p0' : W.drew.cell? ⟨w.heap.size, 0, none⟩ = some _ := p0
  have p1' : W.drew.cell? ⟨w.heap.size, 1, none⟩ = some _ := p1
  have r0' : W.drew.cell? ⟨w.heap.size + 1, 0, none⟩ = some _ := r0
  have r1' : W.drew.cell? ⟨w.heap.size + 1, 1, none⟩ = some _ := r1
  have f0' : W.drew.frozen? ⟨w.heap.size + 1, 0, none⟩ = false := f0
  have f1' : W.drew.frozen? ⟨w.heap.size + 1, 1, none⟩ = false := f1
  have HW := Lib.hid hW
  have hbD : Below w.heap.size w W.drew := hb0.drew
  clear h h' hA hB K4 K5 hW x1 x2 y1 y2 hkp p0 p1 r0 r1 f0 f1 Kp4 Kp6 hb0
  go_enter Try.func122, Try.ntmps122
  go_wp2_with fail
  rw [← HW.out]
  have z1W : W.cell? ⟨B4, 0, none⟩ = some _ := z1
  have z2W : W.cell? ⟨B5, 0, none⟩ = some _ := z2
  have x1W : W.cell? _ = some _ := x1'
  have x2W : W.cell? _ = some _ := x2'
  have y1W : W.cell? _ = some _ := y1'
  have y2W : W.cell? _ = some _ := y2'
  have p0W : W.cell? ⟨w.heap.size, 0, none⟩ = some _ := p0'
  have p1W : W.cell? ⟨w.heap.size, 1, none⟩ = some _ := p1'
  go_still_tail 19, (by kernel_rfl)
  change wpList _ _ _ _ _ W.drew
  clear z1W z2W x1W x2W y1W y2W p0W p1W z1 z2 x1' x2' y1' y2' p0' p1' HW
  generalize W.drew = W2 at *
  go_wp2
  have e0 := cell_setOther (o := 1) (u := .int .i64 ((u' : Nat) : Int)) (cell_setSame (u := .int .i64 ((u : Nat) : Int)) r0') (by omega)
  have e1 := cell_setSame (u := .int .i64 ((u' : Nat) : Int)) (cell_setOther (o := 0) (u := .int .i64 ((u : Nat) : Int)) r1' (by omega))
  refine bodyPost_ret (v := .agg #[.int .i64 ((u : Nat) : Int), .int .i64 ((u' : Nat) : Int)]) (by simp [results, Try.results122, go_sem, e0, e1]) rfl ?_
  unfold RPn
  rw [Hpn.out]
  exact ⟨rfl, (hbD.setCell (by simp) _).setCell (by simp) _⟩
theorem body_prodNext : HasBody 122 := by
  intro args w
  kernel_rfl
set_option maxHeartbeats 1000000 in
theorem prodEnds_c (g : Bool → Bool → Bool) (fE : FuncId) (cE : Array Value) (vn ve un ue : Value) (A B : DfaD) (s : Nat × Nat) (B4 B5 B7 : Nat) (w : World) (h : DfaR S w vn ve A) (h' : DfaR T w un ue B) (hA : okD A) (hB : okD B) (hs : pst A B s)
    (hbE : HasBody fE) (hE : ∀ x y w, Calls Try.prog fE (#[.bool x, .bool y] ++ cE) w (RB w (g x y = true)))
    (K4 : w.heap[B4]? = some (.cells #[vn, ve] 36 (0, 0))) (K5 : w.heap[B5]? = some (.cells #[un, ue] 36 (0, 0))) (K7 : w.heap[B7]? = some (.cells #[.func (.func fE) #[] cE] 88 (0, 0))) :
    Calls Try.prog 123 (#[.agg #[.int .i64 ((s.1 : Nat) : Int), .int .i64 ((s.2 : Nat) : Int)]] ++ #[.pointer (some ⟨B7, 0, none⟩), .pointer (some ⟨B4, 0, none⟩), .pointer (some ⟨B5, 0, none⟩)]) w (RBn w (pe g A B s = true)) := by
  obtain ⟨s1, s2⟩ := s
  obtain ⟨hs1, hs2⟩ := hs
  dsimp only at hs1 hs2 ⊢
  obtain ⟨a, ca, b, d, rfl, rfl, hn, hm⟩ := h.shapes
  obtain ⟨a', ca', b', d', rfl, rfl, hn', hm'⟩ := h'.shapes
  obtain ⟨be, oe, rfl, x1⟩ := h.mark hA hs1
  obtain ⟨be', oe', rfl, y1⟩ := h'.mark hB hs2
  have hsI : (s1 : Int) < (A.2.length : Int) := by rw [hA.2.1]; omega
  have hsI' : (s2 : Int) < (B.2.length : Int) := by rw [hB.2.1]; omega
  have hsn : s1 < A.2.length := by rw [hA.2.1]; omega
  have hsn' : s2 < B.2.length := by rw [hB.2.1]; omega
  have Hpe : Hid (pe g A B (s1, s2) = g (de A s1) (de B s2)) := rfl
  generalize de A s1 = u at *
  generalize de B s2 = u' at *
  have HE := Lib.hid (hE u u')
  have HbE := Lib.hid hbE
  clear hE hbE
  obtain ⟨W, hW⟩ : ∃ W, W = w.alloc (.cells #[.int .i64 ((s1 : Nat) : Int), .int .i64 ((s2 : Nat) : Int)] 131) := ⟨_, rfl⟩
  have hb0 : Below w.heap.size w W := by rw [hW]; exact (Below.refl _ _).alloc (Nat.le_refl _) _
  have Kp4 : Hid (W.heap[w.heap.size]? = some (.cells #[.int .i64 ((s1 : Nat) : Int), .int .i64 ((s2 : Nat) : Int)] 131 (0, 0))) := by rw [hW]; exact blkNew _ _ rfl
  have hkp := kpB (S := fun _ => True) hb0
  have z1 : W.cell? ⟨B4, 1, none⟩ = some _ := hkp _ _ trivial (blk2 K4).2.1
  have z2 : W.cell? ⟨B5, 1, none⟩ = some _ := hkp _ _ trivial (blk2 K5).2.1
  have z3 : W.cell? ⟨B7, 0, none⟩ = some (.func (.func fE) #[] cE) := hkp _ _ trivial (by rw [cell_of_row w B7 0 _ _ _ K7]; rfl)
  have x1' : W.cell? _ = some _ := hkp _ _ trivial x1
  have y1' : W.cell? _ = some _ := hkp _ _ trivial y1
  obtain ⟨p0, p1, _, _⟩ := blk2 Kp4.out
  have HW := Lib.hid hW
  have hbD : Hid (Below w.heap.size w W.drew) := hb0.drew
  clear h h' hA hB K4 K5 K7 hW x1 y1 hkp Kp4 hb0
  go_enter Try.func123, Try.ntmps123
  go_wp2_with fail
  rw [← HW.out]
  go_region_held3 (fun w' => w'.cell? ⟨B4, 1, none⟩ = some (.slice (some ⟨be, oe, none⟩) A.2.length d) ∧ w'.cell? ⟨B5, 1, none⟩ = some (.slice (some ⟨be', oe', none⟩) B.2.length d') ∧ w'.cell? ⟨B7, 0, none⟩ = some (.func (.func fE) #[] cE) ∧
      w'.cell? ⟨be, oe + s1, none⟩ = some (.bool u) ∧ w'.cell? ⟨be', oe' + s2, none⟩ = some (.bool u') ∧
      w'.cell? ⟨w.heap.size, 0, none⟩ = some (.int .i64 ((s1 : Nat) : Int)) ∧ w'.cell? ⟨w.heap.size, 1, none⟩ = some (.int .i64 ((s2 : Nat) : Int)))
    (exact ⟨z1, z2, z3, x1', y1', p0, p1⟩)
    (first | (go_simp; rw [HbE.out, Oper.upon_enter]; refine (HE.out _).mono ?_; rintro e w' ⟨bq, rfl, rfl, hq⟩))
  go_wp2
  go_ret
  refine RBn.mk hbD.out ?_
  rw [Hpe.out]
  exact hq.out
theorem body_prodEnds : HasBody 123 := by
  intro args w
  kernel_rfl
theorem RDb.fin {w wr : World} {B : Nat} {C : DfaD} {p : Prop} {b : Bool} {v1 v2 : Value} (hb : Below w.heap.size w wr) (hB : w.heap.size ≤ B) (hp : Hid (b = true ↔ p))
    (hd : DfaW (fun x => (w.heap.size ≤ x ∧ x < wr.heap.size) ∧ x ≠ B) wr v1 v2 C) : RDb C p w (.returned (.tuple #[.agg #[v1, v2], .bool b])) ((wr.setCell ⟨B, 0, none⟩ v1).setCell ⟨B, 1, none⟩ v2) := by
  obtain ⟨v1', v2', e, hb', hd'⟩ := RD.fin hb hB hd
  injection e with e
  injection e with e
  have h1 := congrArg (fun a : Array Value => a[0]?) e
  have h2 := congrArg (fun a : Array Value => a[1]?) e
  simp at h1 h2
  subst h1 h2
  exact ⟨_, _, _, rfl, hb', hp, hd'⟩
set_option maxHeartbeats 1000000 in
theorem product_c (g : Bool → Bool → Bool) (most : Nat) (fE : FuncId) (cE : Array Value) (vn ve un ue : Value) (A B : DfaD) (w : World) (h : DfaR S w vn ve A) (h' : DfaR T w un ue B) (hA : okD A) (hB : okD B)
    (hbE : HasBody fE) (hE : ∀ x y w, Calls Try.prog fE (#[.bool x, .bool y] ++ cE) w (RB w (g x y = true))) (hm : 1 ≤ most ∧ most ≤ 1000000) :
    Calls Try.prog 106 #[.agg #[vn, ve], .agg #[un, ue], .int .i64 most, .func (.func fE) #[] cE] w (XPp (pn A B) (pe g A B) (0, 0) most w) := by
  obtain ⟨a, ca, b, d, rfl, rfl, hn, hm1⟩ := h.shapes
  obtain ⟨a', ca', b', d', rfl, rfl, hn', hm1'⟩ := h'.shapes
  obtain ⟨W, hW⟩ : ∃ W, W = (((w.alloc (.cells #[.slice a A.1.length ca, .slice b A.2.length d] 36)).alloc (.cells #[.slice a' B.1.length ca', .slice b' B.2.length d'] 36)).alloc (.cells #[.func (.func fE) #[] cE] 88)).alloc (.cells #[.slice none 0 0, .slice none 0 0] 36) := ⟨_, rfl⟩
  have hb0 : Below w.heap.size w W := by rw [hW]; exact ((((Below.refl _ _).alloc (Nat.le_refl _) _).alloc (by simp) _).alloc (by simp; omega) _).alloc (by simp; omega) _
  have K4 : Hid (W.heap[w.heap.size]? = some (.cells #[.slice a A.1.length ca, .slice b A.2.length d] 36 (0, 0))) := by rw [hW]; exact blkOld (blkOld (blkOld (blkNew _ _ rfl)))
  have K5 : Hid (W.heap[w.heap.size + 1]? = some (.cells #[.slice a' B.1.length ca', .slice b' B.2.length d'] 36 (0, 0))) := by rw [hW]; exact blkOld (blkOld (blkNew _ _ (by simp)))
  have K7 : Hid (W.heap[w.heap.size + 2]? = some (.cells #[.func (.func fE) #[] cE] 88 (0, 0))) := by rw [hW]; exact blkOld (blkNew _ _ (by simp))
  have K8 : Hid (W.heap[w.heap.size + 3]? = some (.cells #[.slice none 0 0, .slice none 0 0] 36 (0, 0))) := by rw [hW]; exact blkNew _ _ (by simp)
  have hz8 := (Array.getElem?_eq_some_iff.1 K8.out).1
  have H := h.stay (kpB hb0)
  have H' := h'.stay (kpB hb0)
  have HCall : Hid (Calls Try.prog 121 #[.agg #[.int .i64 0, .int .i64 0], .int .i64 most, .func (.func 122) #[] #[.pointer (some ⟨w.heap.size, 0, none⟩), .pointer (some ⟨w.heap.size + 1, 0, none⟩)],
      .func (.func 123) #[] #[.pointer (some ⟨w.heap.size + 2, 0, none⟩), .pointer (some ⟨w.heap.size, 0, none⟩), .pointer (some ⟨w.heap.size + 1, 0, none⟩)]] W (XPp (pn A B) (pe g A B) (0, 0) most W)) :=
    exploredPair_c (P := pst A B) (pn A B) (pe g A B) (0, 0) most _ _ _ _ W (pst_zero hA hB) (pst_step hA hB) (pst_small hA hB) hm body_prodNext body_prodEnds
      (fun s c w3 hs hc hb3 => prodNext_c _ _ _ _ A B s c _ _ w3 (H.stay (kpB hb3)) (H'.stay (kpB hb3)) hA hB hs hc (blkBel hb3 K4.out) (blkBel hb3 K5.out))
      (fun s w3 hs hb3 => prodEnds_c g fE cE _ _ _ _ A B s _ _ _ w3 (H.stay (kpB hb3)) (H'.stay (kpB hb3)) hA hB hs hbE hE (blkBel hb3 K4.out) (blkBel hb3 K5.out) (blkBel hb3 K7.out))
  have HW := Lib.hid hW
  have Hb0 := Lib.hid hb0
  clear h h' hA hB hbE hE H H' hW hb0 K4 K5 K7
  go_enter Try.func106, Try.ntmps106
  go_wp2_with fail
  rw [← HW.out]
  refine HCall.out.mono ?_
  rintro e w2 ⟨vN, vE, vM, ok, rfl, hb2, hx⟩
  obtain ⟨z0, z1, y0, y1⟩ := blk2 (blkBel hb2 K8.out)
  have hB2 := Lib.hid (Hb0.out.trans (hb2.mono Hb0.out.size))
  have hz2 := hb2.size
  have hzw := Hb0.out.size
  have hsh : ∃ a1 n1 c1 a2 n2 c2, vN = .slice a1 n1 c1 ∧ vE = .slice a2 n2 c2 := by
    rcases hx.out with ⟨_, k, _, _, h3, _⟩ | ⟨_, h1, h2, _⟩
    · obtain ⟨a1, c1, a2, c2, e1, e2, _, _⟩ := h3.rd.shapes
      exact ⟨_, _, _, _, _, _, e1, e2⟩
    · exact ⟨_, _, _, _, _, _, h1, h2⟩
  obtain ⟨a1, n1, cc1, a2, n2, cc2, rfl, rfl⟩ := hsh
  clear hb2
  go_wp2
  have f0 := cell_setOther (o := 1) (u := (.slice a2 n2 cc2)) (cell_setSame (u := (.slice a1 n1 cc1)) z0) (by omega)
  have f1 := cell_setSame (u := (.slice a2 n2 cc2)) (cell_setOther (o := 0) (u := (.slice a1 n1 cc1)) z1 (by omega))
  refine bodyPost_ret (v := .tuple #[.agg #[.slice a1 n1 cc1, .slice a2 n2 cc2], vM, .bool ok]) (by simp [results, Try.results106, go_sem, f0, f1]) rfl ?_
  refine ⟨_, _, _, _, rfl, (hB2.out.setCell (by show w.heap.size ≤ w.heap.size + 3; omega) _).setCell (by show w.heap.size ≤ w.heap.size + 3; omega) _, ?_⟩
  rcases hx.out with ⟨rfl, k, h1, h2, h3, h4⟩ | h
  · refine .inl ⟨rfl, k, h1, h2, ?_, ?_⟩
    · refine (h3.stay (fun b hb _ => ?_)).mono (fun b hb => ⟨by have := hb.1; omega, by simpa [World.setCell] using hb.2⟩)
      have hnb : b ≠ w.heap.size + 3 := by have := hb.1; omega
      rw [Below.heap_setCell _ _ _ _ hnb, Below.heap_setCell _ _ _ _ hnb]
    · have hne : vM.ownBlock = none ∨ vM.ownBlock ≠ some (w.heap.size + 3) := .inr (fun he => by have := (own_ge h4 _ he).1; omega)
      exact ownBase ((h4.kept (grownSet w2 (w.heap.size + 3) 0 (.slice a1 n1 cc1)) hne).kept (grownSet _ (w.heap.size + 3) 1 (.slice a2 n2 cc2)) hne) hzw
  · exact .inr h
end Go.Proofs.Ythdbgpdidolmaaa
