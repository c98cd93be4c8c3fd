/- The first words of two automata side by side: the program's. -/
import Derived.Test.YthdbgpdidolmaaaFwi
import Derived.Test.YthdbgpdidolmaaaPrq
namespace Go.Proofs.Ythdbgpdidolmaaa
open Go.RowKit
set_option maxRecDepth 100000
variable {S T : Nat → Prop}
theorem pair_few {A B : DfaD} (hA : okD A) (hB : okD B) (k : Nat) : (rnd (pn A B) (0, 0) k).length ≤ 1600 := by
  have hall := rnd_all (pn A B) (P := pst A B) (pst_zero hA hB) (fun s hs => ⟨pst_step hA hB s hs 0 (by omega), pst_step hA hB s hs 1 (by omega), pst_step hA hB s hs 2 (by omega)⟩) k
  have hnd := rnd_nodup (pn A B) (0, 0) k
  generalize rnd (pn A B) (0, 0) k = M at *
  have h1 : (M.map (fun s : Nat × Nat => s.1 * 40 + s.2)).Nodup := by
    refine List.pairwise_iff_getElem.2 fun i j hi hj hij he => ?_
    simp only [List.length_map] at hi hj
    simp only [List.getElem_map] at he
    have p1 := hall _ (List.getElem_mem hi)
    have p2 := hall _ (List.getElem_mem hj)
    have hb := hB.1.2
    have q1 := p1.2
    have q2 := p2.2
    refine List.pairwise_iff_getElem.1 hnd i j hi hj hij ?_
    exact Prod.ext (by omega) (by omega)
  have := nodup_le (n := 1600) h1 (fun x hx => by
    obtain ⟨s, hs, rfl⟩ := List.mem_map.1 hx
    have p1 := hall _ hs
    have ha := hA.1.2
    have hb := hB.1.2
    have q1 := p1.1
    have q2 := p1.2
    omega)
  simpa using this
open Classical in
noncomputable def prV (g : Bool → Bool → Bool) (A B : DfaD) : ByteArray := if okD A ∧ okD B then fstW (lg (pn A B) (pe g A B) (0, 0)) else ByteArray.empty
open Classical in
noncomputable def prB (g : Bool → Bool → Bool) (A B : DfaD) : Bool := if okD A ∧ okD B then fwB (lg (pn A B) (pe g A B) (0, 0)) else false
open Classical in
noncomputable def smB (A B : DfaD) : Bool := if okD A ∧ okD B then !fwB (lg (pn A B) (pe gApart A B) (0, 0)) else false
theorem prV_no {g : Bool → Bool → Bool} {A B : DfaD} (h : ¬ (okD A ∧ okD B)) : prV g A B = ByteArray.empty := if_neg h
theorem prB_no {g : Bool → Bool → Bool} {A B : DfaD} (h : ¬ (okD A ∧ okD B)) : prB g A B = false := if_neg h
theorem pr_yes {g : Bool → Bool → Bool} {A B : DfaD} (hA : okD A) (hB : okD B) : prV g A B = fstW (lg (pn A B) (pe g A B) (0, 0)) ∧ prB g A B = fwB (lg (pn A B) (pe g A B) (0, 0)) := ⟨if_pos ⟨hA, hB⟩, if_pos ⟨hA, hB⟩⟩
theorem smB_no {A B : DfaD} (h : ¬ (okD A ∧ okD B)) : smB A B = false := if_neg h
theorem smB_yes {A B : DfaD} (hA : okD A) (hB : okD B) : smB A B = !fwB (lg (pn A B) (pe gApart A B) (0, 0)) := if_pos ⟨hA, hB⟩
open Classical in
noncomputable def foV (D : DfaD) : ByteArray := if okD D then fstW (lgD D) else ByteArray.empty
open Classical in
noncomputable def foB (D : DfaD) : Bool := if okD D then fwB (lgD D) else false
theorem fo_no {D : DfaD} (h : ¬ okD D) : foV D = ByteArray.empty ∧ foB D = false := ⟨if_neg h, if_neg h⟩
theorem fo_yes {D : DfaD} (h : okD D) : foV D = fstW (lgD D) ∧ foB D = fwB (lgD D) := ⟨if_pos h, if_pos h⟩
set_option maxHeartbeats 1000000 in
theorem firstPair_c (g : Bool → Bool → Bool) (fE : FuncId) (cE : Array Value) (vn ve un ue : Value) (A B : DfaD) (w : World) (h : DfaR S w vn ve A) (h' : DfaR T w un ue B) (hA : okD A) (hB : okD B)
    (hbE : HasBody fE) (hE : ∀ x y w, Calls Try.prog fE (#[.bool x, .bool y] ++ cE) w (RB w (g x y = true))) :
    Calls Try.prog 70 #[.agg #[vn, ve], .agg #[un, ue], .func (.func fE) #[] cE] w (RO w (.tuple #[.string (fstW (lg (pn A B) (pe g A B) (0, 0))), .bool (fwB (lg (pn A B) (pe g A B) (0, 0)))])) := by
  obtain ⟨a, ca, b, d, rfl, rfl, hn, hm1⟩ := h.shapes
  obtain ⟨a', ca', b', d', rfl, rfl, hn', hm1'⟩ := h'.shapes
  obtain ⟨W, hW⟩ : ∃ W, W = (w.alloc (.cells #[.slice a A.1.length ca, .slice b A.2.length d] 36)).alloc (.cells #[.slice a' B.1.length ca', .slice b' B.2.length d'] 36) := ⟨_, rfl⟩
  have Hb0 : Hid (Below w.heap.size w W) := by rw [hW]; exact ((Below.refl _ _).alloc (Nat.le_refl _) _).alloc (by simp) _
  have K4 : Hid (W.heap[w.heap.size]? = some (.cells #[.slice a A.1.length ca, .slice b A.2.length d] 36 (0, 0))) := by rw [hW]; exact blkOld (blkNew _ _ rfl)
  have K5 : Hid (W.heap[w.heap.size + 1]? = some (.cells #[.slice a' B.1.length ca', .slice b' B.2.length d'] 36 (0, 0))) := by rw [hW]; exact blkNew _ _ (by simp)
  have H := Lib.hid (h.stay (kpB Hb0.out))
  have H' := Lib.hid (h'.stay (kpB Hb0.out))
  have HW := Lib.hid hW
  clear h h' hW
  obtain ⟨c0, c1, _, _⟩ := blk2 K4.out
  obtain ⟨e0, e1, _, _⟩ := blk2 K5.out
  rw [HW.out] at c0 c1 e0 e1
  have HC := Lib.hid (product_c g 1600 fE cE _ _ _ _ A B W H.out H'.out hA hB hbE hE (by omega))
  have HA := Lib.hid hA
  have HB := Lib.hid hB
  clear hA hB hbE hE H H' K4 K5
  go_enter Try.func70, Try.ntmps70
  go_wp2_with fail
  clear c0 c1 e0 e1
  rw [← HW.out]
  refine HC.out.mono ?_
  rintro e w2 ⟨vN, vE, vM, ok, rfl, hb2, hx⟩
  have hB2 := Lib.hid (Hb0.out.trans (hb2.mono Hb0.out.size))
  clear HC HW hb2
  rcases hx.out with ⟨rfl, k, h1, h2, h3, _⟩ | ⟨_, _, _, _, k, hk⟩
  · have Hok : Hid (okG (autD (pn A B) (pe g A B) (rnd (pn A B) (0, 0) k))) := aut_okG (rnd_pos _ _ _) (rnd_closed (pn A B) (Nat.le_of_eq h1))
    have Hlg := Lib.hid (pair_lg (g := g) h1)
    have hlen : (autD (pn A B) (pe g A B) (rnd (pn A B) (0, 0) k)).1.length ≤ 2000 := by rw [aut_len]; omega
    have HD3 := Lib.hid h3
    clear hx h1 h2 h3
    generalize autD (pn A B) (pe g A B) (rnd (pn A B) (0, 0) k) = X at *
    obtain ⟨a1, ca1, b1, cb1, rfl, rfl, _, _⟩ := HD3.out.rd.shapes
    obtain ⟨W3, hW3⟩ : ∃ W3, W3 = w2.alloc (.cells #[.slice a1 X.1.length ca1, .slice b1 X.2.length cb1] 36) := ⟨_, rfl⟩
    have hb3 : Below w2.heap.size w2 W3 := by rw [hW3]; exact (Below.refl _ _).alloc (Nat.le_refl _) _
    have K8 : Hid (W3.heap[w2.heap.size]? = some (.cells #[.slice a1 X.1.length ca1, .slice b1 X.2.length cb1] 36 (0, 0))) := by rw [hW3]; exact blkNew _ _ rfl
    have HX3 := Lib.hid (HD3.out.rd.stay (kpB hb3))
    have hB3 := Lib.hid (hB2.out.trans (hb3.mono hB2.out.size))
    have HW3 := Lib.hid hW3
    obtain ⟨d0, d1, _, _⟩ := blk2 K8.out
    rw [HW3.out] at d0 d1
    clear hW3 hb3 HD3
    go_wp2_with fail
    clear d0 d1
    rw [← HW3.out]
    refine (firstWord_c _ _ X W3 HX3.out Hok.out hlen).mono ?_
    rintro e w6 ⟨rfl, hb6⟩
    rw [Hlg.out]
    have HBR := Lib.hid (hB3.out.trans (hb6.mono hB3.out.size))
    clear hb6 Hok Hlg HX3 K8 HW3
    generalize fstW (lg (pn A B) (pe g A B) (0, 0)) = q1 at *
    generalize fwB (lg (pn A B) (pe g A B) (0, 0)) = q2 at *
    go_wp2
    go_ret2
    exact ⟨rfl, HBR.out⟩
  · have := pair_few HA.out HB.out k
    omega
theorem differ_g (x y : Bool) (w : World) : Calls Try.prog 107 (#[.bool x, .bool y] ++ #[]) w (RB w (gApart x y = true)) := by
  cases x <;> cases y
  all_goals (
    go_enter Try.func107, Try.ntmps107
    go_wp2
    go_ret
    exact RB.mk (by decide))
theorem body_differ : HasBody 107 := by
  intro args w
  kernel_rfl
set_option maxHeartbeats 1000000 in
theorem differ_c (vn ve un ue : Value) (A B : DfaD) (w : World) (h : DfaR S w vn ve A) (h' : DfaR T w un ue B) (hA : okD A) (hB : okD B) :
    Calls Try.prog 75 #[.agg #[vn, ve], .agg #[un, ue]] w (RO w (.tuple #[.string (fstW (lg (pn A B) (pe gApart A B) (0, 0))), .bool (fwB (lg (pn A B) (pe gApart A B) (0, 0)))])) := by
  obtain ⟨a, ca, b, d, rfl, rfl, hn, hm1⟩ := h.shapes
  obtain ⟨a', ca', b', d', rfl, rfl, hn', hm1'⟩ := h'.shapes
  obtain ⟨W, hW⟩ : ∃ W, W = (w.alloc (.cells #[.slice a A.1.length ca, .slice b A.2.length d] 36)).alloc (.cells #[.slice a' B.1.length ca', .slice b' B.2.length d'] 36) := ⟨_, rfl⟩
  have Hb0 : Hid (Below w.heap.size w W) := by rw [hW]; exact ((Below.refl _ _).alloc (Nat.le_refl _) _).alloc (by simp) _
  have K4 : Hid (W.heap[w.heap.size]? = some (.cells #[.slice a A.1.length ca, .slice b A.2.length d] 36 (0, 0))) := by rw [hW]; exact blkOld (blkNew _ _ rfl)
  have K5 : Hid (W.heap[w.heap.size + 1]? = some (.cells #[.slice a' B.1.length ca', .slice b' B.2.length d'] 36 (0, 0))) := by rw [hW]; exact blkNew _ _ (by simp)
  have H := Lib.hid (h.stay (kpB Hb0.out))
  have H' := Lib.hid (h'.stay (kpB Hb0.out))
  have HW := Lib.hid hW
  clear h h' hW
  obtain ⟨c0, c1, _, _⟩ := blk2 K4.out
  obtain ⟨e0, e1, _, _⟩ := blk2 K5.out
  rw [HW.out] at c0 c1 e0 e1
  have HC := Lib.hid (firstPair_c gApart 107 #[] _ _ _ _ A B W H.out H'.out hA hB body_differ differ_g)
  clear hA hB H H' K4 K5
  go_enter Try.func75, Try.ntmps75
  go_wp2_with fail
  clear c0 c1 e0 e1
  rw [← HW.out]
  refine HC.out.mono ?_
  rintro e w2 ⟨rfl, hb2⟩
  have hB2 := Lib.hid (Hb0.out.trans (hb2.mono Hb0.out.size))
  clear HC HW hb2
  generalize fstW (lg (pn A B) (pe gApart A B) (0, 0)) = q1 at *
  generalize fwB (lg (pn A B) (pe gApart A B) (0, 0)) = q2 at *
  go_wp2
  go_ret2
  exact ⟨rfl, hB2.out⟩
set_option maxHeartbeats 1000000 in
theorem FirstDiffer_c (vn ve un ue : Value) (A B : DfaD) (w : World) (h : DfaR S w vn ve A) (h' : DfaR T w un ue B) :
    Calls Try.prog 30 #[.agg #[vn, ve], .agg #[un, ue]] w (RO w (.tuple #[.string (prV gApart A B), .bool (prB gApart A B)])) := by
  obtain ⟨a, ca, b, d, rfl, rfl, hn, hm1⟩ := h.shapes
  obtain ⟨a', ca', b', d', rfl, rfl, hn', hm1'⟩ := h'.shapes
  obtain ⟨W, hW⟩ : ∃ W, W = (w.alloc (.cells #[.slice a A.1.length ca, .slice b A.2.length d] 36)).alloc (.cells #[.slice a' B.1.length ca', .slice b' B.2.length d'] 36) := ⟨_, rfl⟩
  have Hb0 : Hid (Below w.heap.size w W) := by rw [hW]; exact ((Below.refl _ _).alloc (Nat.le_refl _) _).alloc (by simp) _
  have K4 : Hid (W.heap[w.heap.size]? = some (.cells #[.slice a A.1.length ca, .slice b A.2.length d] 36 (0, 0))) := by rw [hW]; exact blkOld (blkNew _ _ rfl)
  have K5 : Hid (W.heap[w.heap.size + 1]? = some (.cells #[.slice a' B.1.length ca', .slice b' B.2.length d'] 36 (0, 0))) := by rw [hW]; exact blkNew _ _ (by simp)
  have H := Lib.hid (h.stay (kpB Hb0.out))
  have H' := Lib.hid (h'.stay (kpB Hb0.out))
  have HW := Lib.hid hW
  clear h h' hW
  obtain ⟨c0, c1, _, _⟩ := blk2 K4.out
  obtain ⟨e0, e1, _, _⟩ := blk2 K5.out
  rw [HW.out] at c0 c1 e0 e1
  go_enter Try.func30, Try.ntmps30
  go_wp2_with fail
  clear c0 c1 e0 e1
  rw [← HW.out]
  refine (DfaValid_c _ _ A W H.out).mono ?_
  rintro e w1 ⟨ok, rfl, hb1, hok⟩
  have hB1 := Lib.hid (Hb0.out.trans (hb1.mono Hb0.out.size))
  have K51 := Lib.hid (blkBel hb1 K5.out)
  have K41 := Lib.hid (blkBel hb1 K4.out)
  have H1 := Lib.hid (H.out.stay (kpB hb1))
  have H1' := Lib.hid (H'.out.stay (kpB hb1))
  clear hb1 K5 K4 H H' HW
  obtain ⟨c0, c1, _, _⟩ := blk2 K41.out
  obtain ⟨e0, e1, _, _⟩ := blk2 K51.out
  cases ok
  · have hno : ¬ (okD A ∧ okD B) := fun h => hbF hok h.1
    have HN := Lib.hid hno
    clear hok hno
    go_wp2
    go_ret2
    rw [prV_no HN.out, prB_no HN.out]
    exact ⟨rfl, hB1.out⟩
  · have hyA := Lib.hid (hbT hok)
    clear hok
    go_wp2_with fail
    clear c0 c1 e0 e1
    refine (DfaValid_c _ _ B w1 H1'.out).mono ?_
    rintro e w2 ⟨ok, rfl, hb2, hok⟩
    have hB2 := Lib.hid (hB1.out.trans (hb2.mono hB1.out.size))
    have K52 := Lib.hid (blkBel hb2 K51.out)
    have K42 := Lib.hid (blkBel hb2 K41.out)
    have H2 := Lib.hid (H1.out.stay (kpB hb2))
    have H2' := Lib.hid (H1'.out.stay (kpB hb2))
    clear hb2 K51 K41 H1 H1'
    obtain ⟨c0, c1, _, _⟩ := blk2 K42.out
    obtain ⟨e0, e1, _, _⟩ := blk2 K52.out
    cases ok
    · have hno : ¬ (okD A ∧ okD B) := fun h => hbF hok h.2
      have HN := Lib.hid hno
      clear hok hno
      go_wp2
      go_ret2
      rw [prV_no HN.out, prB_no HN.out]
      exact ⟨rfl, hB2.out⟩
    · have hyB := Lib.hid (hbT hok)
      clear hok
      have HC := Lib.hid (differ_c _ _ _ _ A B w2 H2.out H2'.out hyA.out hyB.out)
      clear H2 H2'
      go_wp2_with fail
      clear c0 c1 e0 e1
      refine HC.out.mono ?_
      rintro e w3 ⟨rfl, hb3⟩
      have hB3 := Lib.hid (hB2.out.trans (hb3.mono hB2.out.size))
      have Hv : Hid (prV gApart A B = fstW (lg (pn A B) (pe gApart A B) (0, 0)) ∧ prB gApart A B = fwB (lg (pn A B) (pe gApart A B) (0, 0))) := Lib.hid (pr_yes hyA.out hyB.out)
      clear hb3 HC
      generalize fstW (lg (pn A B) (pe gApart A B) (0, 0)) = q1 at *
      generalize fwB (lg (pn A B) (pe gApart A B) (0, 0)) = q2 at *
      go_wp2
      go_ret2
      rw [Hv.out.1, Hv.out.2]
      exact ⟨rfl, hB3.out⟩
set_option maxHeartbeats 1000000 in
theorem SameLanguage_c (vn ve un ue : Value) (A B : DfaD) (w : World) (h : DfaR S w vn ve A) (h' : DfaR T w un ue B) :
    Calls Try.prog 32 #[.agg #[vn, ve], .agg #[un, ue]] w (RO w (.bool (smB A B))) := by
  obtain ⟨a, ca, b, d, rfl, rfl, hn, hm1⟩ := h.shapes
  obtain ⟨a', ca', b', d', rfl, rfl, hn', hm1'⟩ := h'.shapes
  obtain ⟨W, hW⟩ : ∃ W, W = (w.alloc (.cells #[.slice a A.1.length ca, .slice b A.2.length d] 36)).alloc (.cells #[.slice a' B.1.length ca', .slice b' B.2.length d'] 36) := ⟨_, rfl⟩
  have Hb0 : Hid (Below w.heap.size w W) := by rw [hW]; exact ((Below.refl _ _).alloc (Nat.le_refl _) _).alloc (by simp) _
  have K4 : Hid (W.heap[w.heap.size]? = some (.cells #[.slice a A.1.length ca, .slice b A.2.length d] 36 (0, 0))) := by rw [hW]; exact blkOld (blkNew _ _ rfl)
  have K5 : Hid (W.heap[w.heap.size + 1]? = some (.cells #[.slice a' B.1.length ca', .slice b' B.2.length d'] 36 (0, 0))) := by rw [hW]; exact blkNew _ _ (by simp)
  have H := Lib.hid (h.stay (kpB Hb0.out))
  have H' := Lib.hid (h'.stay (kpB Hb0.out))
  have HW := Lib.hid hW
  clear h h' hW
  obtain ⟨c0, c1, _, _⟩ := blk2 K4.out
  obtain ⟨e0, e1, _, _⟩ := blk2 K5.out
  rw [HW.out] at c0 c1 e0 e1
  go_enter Try.func32, Try.ntmps32
  go_wp2_with fail
  clear c0 c1 e0 e1
  rw [← HW.out]
  refine (DfaValid_c _ _ A W H.out).mono ?_
  rintro e w1 ⟨ok, rfl, hb1, hok⟩
  have hB1 := Lib.hid (Hb0.out.trans (hb1.mono Hb0.out.size))
  have K51 := Lib.hid (blkBel hb1 K5.out)
  have K41 := Lib.hid (blkBel hb1 K4.out)
  have H1 := Lib.hid (H.out.stay (kpB hb1))
  have H1' := Lib.hid (H'.out.stay (kpB hb1))
  clear hb1 K5 K4 H H' HW
  obtain ⟨c0, c1, _, _⟩ := blk2 K41.out
  obtain ⟨e0, e1, _, _⟩ := blk2 K51.out
  cases ok
  · have hno : ¬ (okD A ∧ okD B) := fun h => hbF hok h.1
    have HN := Lib.hid hno
    clear hok hno
    go_wp2
    go_ret
    rw [smB_no HN.out]
    exact ⟨rfl, hB1.out⟩
  · have hyA := Lib.hid (hbT hok)
    clear hok
    go_wp2_with fail
    clear c0 c1 e0 e1
    refine (DfaValid_c _ _ B w1 H1'.out).mono ?_
    rintro e w2 ⟨ok, rfl, hb2, hok⟩
    have hB2 := Lib.hid (hB1.out.trans (hb2.mono hB1.out.size))
    have K52 := Lib.hid (blkBel hb2 K51.out)
    have K42 := Lib.hid (blkBel hb2 K41.out)
    have H2 := Lib.hid (H1.out.stay (kpB hb2))
    have H2' := Lib.hid (H1'.out.stay (kpB hb2))
    clear hb2 K51 K41 H1 H1'
    obtain ⟨c0, c1, _, _⟩ := blk2 K42.out
    obtain ⟨e0, e1, _, _⟩ := blk2 K52.out
    cases ok
    · have hno : ¬ (okD A ∧ okD B) := fun h => hbF hok h.2
      have HN := Lib.hid hno
      clear hok hno
      go_wp2
      go_ret
      rw [smB_no HN.out]
      exact ⟨rfl, hB2.out⟩
    · have hyB := Lib.hid (hbT hok)
      clear hok
      have HC := Lib.hid (differ_c _ _ _ _ A B w2 H2.out H2'.out hyA.out hyB.out)
      clear H2 H2'
      go_wp2_with fail
      clear c0 c1 e0 e1
      refine HC.out.mono ?_
      rintro e w3 ⟨rfl, hb3⟩
      have hB3 := Lib.hid (hB2.out.trans (hb3.mono hB2.out.size))
      have Hv : Hid (smB A B = !fwB (lg (pn A B) (pe gApart A B) (0, 0))) := Lib.hid (smB_yes hyA.out hyB.out)
      clear hb3 HC
      generalize fstW (lg (pn A B) (pe gApart A B) (0, 0)) = q1 at *
      generalize fwB (lg (pn A B) (pe gApart A B) (0, 0)) = q2 at *
      go_wp2
      go_ret
      rw [Hv.out]
      exact ⟨rfl, hB3.out⟩
theorem extra_g (x y : Bool) (w : World) : Calls Try.prog 71 (#[.bool x, .bool y] ++ #[]) w (RB w (gLess x y = true)) := by
  cases x <;> cases y
  all_goals (
    go_enter Try.func71, Try.ntmps71
    go_wp2
    go_ret
    exact RB.mk (by decide))
theorem body_extra : HasBody 71 := by
  intro args w
  kernel_rfl
set_option maxHeartbeats 1000000 in
theorem FirstExtra_c (vn ve un ue : Value) (A B : DfaD) (w : World) (h : DfaR S w vn ve A) (h' : DfaR T w un ue B) :
    Calls Try.prog 26 #[.agg #[vn, ve], .agg #[un, ue]] w (RO w (.tuple #[.string (prV gLess A B), .bool (prB gLess A B)])) := by
  obtain ⟨a, ca, b, d, rfl, rfl, hn, hm1⟩ := h.shapes
  obtain ⟨a', ca', b', d', rfl, rfl, hn', hm1'⟩ := h'.shapes
  obtain ⟨W, hW⟩ : ∃ W, W = (w.alloc (.cells #[.slice a A.1.length ca, .slice b A.2.length d] 36)).alloc (.cells #[.slice a' B.1.length ca', .slice b' B.2.length d'] 36) := ⟨_, rfl⟩
  have Hb0 : Hid (Below w.heap.size w W) := by rw [hW]; exact ((Below.refl _ _).alloc (Nat.le_refl _) _).alloc (by simp) _
  have K4 : Hid (W.heap[w.heap.size]? = some (.cells #[.slice a A.1.length ca, .slice b A.2.length d] 36 (0, 0))) := by rw [hW]; exact blkOld (blkNew _ _ rfl)
  have K5 : Hid (W.heap[w.heap.size + 1]? = some (.cells #[.slice a' B.1.length ca', .slice b' B.2.length d'] 36 (0, 0))) := by rw [hW]; exact blkNew _ _ (by simp)
  have H := Lib.hid (h.stay (kpB Hb0.out))
  have H' := Lib.hid (h'.stay (kpB Hb0.out))
  have HW := Lib.hid hW
  clear h h' hW
  obtain ⟨c0, c1, _, _⟩ := blk2 K4.out
  obtain ⟨e0, e1, _, _⟩ := blk2 K5.out
  rw [HW.out] at c0 c1 e0 e1
  go_enter Try.func26, Try.ntmps26
  go_wp2_with fail
  clear c0 c1 e0 e1
  rw [← HW.out]
  refine (DfaValid_c _ _ A W H.out).mono ?_
  rintro e w1 ⟨ok, rfl, hb1, hok⟩
  have hB1 := Lib.hid (Hb0.out.trans (hb1.mono Hb0.out.size))
  have K51 := Lib.hid (blkBel hb1 K5.out)
  have K41 := Lib.hid (blkBel hb1 K4.out)
  have H1 := Lib.hid (H.out.stay (kpB hb1))
  have H1' := Lib.hid (H'.out.stay (kpB hb1))
  clear hb1 K5 K4 H H' HW
  obtain ⟨c0, c1, _, _⟩ := blk2 K41.out
  obtain ⟨e0, e1, _, _⟩ := blk2 K51.out
  cases ok
  · have hno : ¬ (okD A ∧ okD B) := fun h => hbF hok h.1
    have HN := Lib.hid hno
    clear hok hno
    go_wp2
    go_ret2
    rw [prV_no HN.out, prB_no HN.out]
    exact ⟨rfl, hB1.out⟩
  · have hyA := Lib.hid (hbT hok)
    clear hok
    go_wp2_with fail
    clear c0 c1 e0 e1
    refine (DfaValid_c _ _ B w1 H1'.out).mono ?_
    rintro e w2 ⟨ok, rfl, hb2, hok⟩
    have hB2 := Lib.hid (hB1.out.trans (hb2.mono hB1.out.size))
    have K52 := Lib.hid (blkBel hb2 K51.out)
    have K42 := Lib.hid (blkBel hb2 K41.out)
    have H2 := Lib.hid (H1.out.stay (kpB hb2))
    have H2' := Lib.hid (H1'.out.stay (kpB hb2))
    clear hb2 K51 K41 H1 H1'
    obtain ⟨c0, c1, _, _⟩ := blk2 K42.out
    obtain ⟨e0, e1, _, _⟩ := blk2 K52.out
    cases ok
    · have hno : ¬ (okD A ∧ okD B) := fun h => hbF hok h.2
      have HN := Lib.hid hno
      clear hok hno
      go_wp2
      go_ret2
      rw [prV_no HN.out, prB_no HN.out]
      exact ⟨rfl, hB2.out⟩
    · have hyB := Lib.hid (hbT hok)
      clear hok
      have HC := Lib.hid (firstPair_c gLess 71 #[] _ _ _ _ A B w2 H2.out H2'.out hyA.out hyB.out body_extra extra_g)
      clear H2 H2'
      go_wp2_with fail
      clear c0 c1 e0 e1
      refine HC.out.mono ?_
      rintro e w3 ⟨rfl, hb3⟩
      have hB3 := Lib.hid (hB2.out.trans (hb3.mono hB2.out.size))
      have Hv : Hid (prV gLess A B = fstW (lg (pn A B) (pe gLess A B) (0, 0)) ∧ prB gLess A B = fwB (lg (pn A B) (pe gLess A B) (0, 0))) := Lib.hid (pr_yes hyA.out hyB.out)
      clear hb3 HC
      generalize fstW (lg (pn A B) (pe gLess A B) (0, 0)) = q1 at *
      generalize fwB (lg (pn A B) (pe gLess A B) (0, 0)) = q2 at *
      go_wp2
      go_ret2
      rw [Hv.out.1, Hv.out.2]
      exact ⟨rfl, hB3.out⟩
set_option maxHeartbeats 1000000 in
theorem FirstOf_c (vn ve : Value) (D : DfaD) (w : World) (h : DfaR S w vn ve D) : Calls Try.prog 23 #[.agg #[vn, ve]] w (RO w (.tuple #[.string (foV D), .bool (foB D)])) := by
  obtain ⟨a, c, b, d, rfl, rfl, hn, hm⟩ := (h).shapes
  obtain ⟨W, hW⟩ : ∃ W, W = w.alloc (.cells #[.slice a D.1.length c, .slice b D.2.length d] 36) := ⟨_, rfl⟩
  have Hb0 : Hid (Below w.heap.size w W) := by rw [hW]; exact (Below.refl _ _).alloc (Nat.le_refl _) _
  have c0 : W.cell? ⟨w.heap.size, 0, none⟩ = some (.slice a D.1.length c) := by rw [hW, World.cell?_alloc_mark]; rfl
  have c1 : W.cell? ⟨w.heap.size, 1, none⟩ = some (.slice b D.2.length d) := by rw [hW, World.cell?_alloc_mark]; rfl
  have K0 : Hid (W.heap[w.heap.size]? = some (.cells #[.slice a D.1.length c, .slice b D.2.length d] 36 (0, 0))) := by rw [hW]; exact blkNew _ _ rfl
  have Hz : Hid (W.heap.size = w.heap.size + 1) := by rw [hW]; simp [Hid]
  have H := Lib.hid ((h).stay (kpB Hb0.out)); clear h
  have HW := Lib.hid hW; clear hW
  rw [HW.out] at c0 c1
  go_enter Try.func23, Try.ntmps23
  go_wp2_with fail
  clear c0 c1
  rw [← HW.out]
  refine (DfaValid_c _ _ D W H.out).mono ?_
  rintro e w1 ⟨ok, rfl, hb1, hok⟩
  have hB := Lib.hid (Hb0.out.trans (hb1.mono Hb0.out.size))
  have H1 := Lib.hid (H.out.stay (kpB hb1))
  obtain ⟨c0, c1, _, _⟩ := blk2 (blkBel hb1 K0.out)
  clear hb1 H HW
  cases ok
  · have hno := Lib.hid (hbF hok)
    clear hok
    go_wp2
    go_ret2
    rw [(fo_no hno.out).1, (fo_no hno.out).2]
    exact ⟨rfl, hB.out⟩
  · have hyes := Lib.hid (hbT hok)
    clear hok
    have hlen : D.1.length ≤ 2000 := by have := hyes.out.1.2; omega
    have Hv := Lib.hid (fo_yes hyes.out)
    go_wp2_with fail
    clear c0 c1
    refine (firstWord_c _ _ D w1 H1.out hyes.out.g hlen).mono ?_
    rintro e w2 ⟨rfl, hb2⟩
    have hB2 := Lib.hid (hB.out.trans (hb2.mono hB.out.size))
    clear hb2
    generalize fstW (lgD D) = q1 at *
    generalize fwB (lgD D) = q2 at *
    go_wp2
    go_ret2
    rw [Hv.out.1, Hv.out.2]
    exact ⟨rfl, hB2.out⟩
end Go.Proofs.Ythdbgpdidolmaaa
