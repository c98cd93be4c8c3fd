/- The other words: the program's and the reference's. -/
import Derived.Test.YtebcnamfpajneaaGA
import Derived.Test.YtebcnamfpajneaaSml
set_option linter.unusedSimpArgs false
set_option linter.unusedVariables false
set_option linter.unusedSectionVars false
namespace Go.Proofs.Ytebcnamfpajneaa
open Go.RowKit
set_option maxRecDepth 100000
variable {S T : Nat → Prop}
/-- The marks of an automaton in block B4, whose rows are another's, are built. -/
structure ES (base : Nat) (W : World) (B4 : Nat) (vn : Value) (es : List Bool) (vE : Value) (w : World) : Prop where
  bel : Below base W w
  size : base ≤ w.heap.size
  h4 : base ≤ B4
  b4 : w.heap[B4]? = some (.cells #[vn, vE] 26 (0, 0))
  en : w.ownsRow base 4 1 vE es.length (es.map .bool)
section
variable {base : Nat} {W : World} {B4 : Nat} {vn vE : Value} {es : List Bool} {w w' : World}
theorem ES.stay (h : ES base W B4 vn es vE w) (hb : Below w.heap.size w w') : ES base W B4 vn es vE w' :=
  ⟨h.bel.trans (hb.mono h.size), Nat.le_trans h.size hb.size, h.h4, blkBel hb h.b4, ownStay h.en hb⟩
theorem ES.drew (h : ES base W B4 vn es vE w) : ES base W B4 vn es vE w.drew := h.stay (Below.refl _ _).drew
theorem ES.mark (h : ES base W B4 vn es vE w) {x : Bool} {vE' : Value} (hg : w.grownBy w' vE.ownBlock) (ho : w'.ownsRow base 4 1 vE' (es.length + 1) (es.map .bool ++ [.bool x])) :
    ES base W B4 vn (es ++ [x]) vE' (w'.setCell ⟨B4, 1, none⟩ vE') := by
  have b4 := blkGrow hg h.b4 (own_cells' h.en h.b4 (by decide))
  have hgs := grownSet w' B4 1 vE'
  have hbel := h.bel.grown hg h.size (fun b hb => (own_ge h.en b hb).1)
  refine ⟨hbel.setCell h.h4 _, Nat.le_trans (Nat.le_trans h.size hg.size) hgs.size, h.h4, by rw [heap_set b4]; rfl, ?_⟩
  have := ho.kept hgs (.inr (own_cells' ho b4 (by decide)).symm)
  simpa using this
end
/-- The first k marks turned. -/
def nots (D : DfaD) (k : Nat) : List Bool := (D.2.take k).map (!·)
theorem nots_succ (D : DfaD) {k : Nat} (h : k < D.2.length) : nots D (k + 1) = nots D k ++ [!D.2[k]] := by
  unfold nots
  rw [List.take_succ_eq_append_getElem h, List.map_append]; rfl
theorem nots_len (D : DfaD) {k : Nat} (h : k ≤ D.2.length) : (nots D k).length = k := by simp [nots]; omega
set_option maxHeartbeats 1000000 in
theorem other_c (vn ve : Value) (D : DfaD) (w : World) (h : DfaR S w vn ve D) (hD : okD D) :
    Calls Try.prog 91 #[.agg #[vn, ve]] w (fun e w' => ∃ v2, e = .returned (.agg #[vn, v2]) ∧ Below w.heap.size w w' ∧ Hid (Bools (fun _ => True) w' v2 (othD D).2)) := by
  obtain ⟨a, ca, b, d, rfl, rfl, hn, hm⟩ := (h).shapes
  obtain ⟨W, hW⟩ : ∃ W, W = (w.alloc (.cells #[.slice a D.1.length ca, .slice b D.2.length d] 26)).alloc (.cells #[.slice none 0 0, .slice none 0 0] 26) := ⟨_, rfl⟩
  have Hb0 : Hid (Below w.heap.size w W) := by rw [hW]; exact ((Below.refl _ _).alloc (Nat.le_refl _) _).alloc (by simp) _
  have K0 : Hid (W.heap[w.heap.size]? = some (.cells #[.slice a D.1.length ca, .slice b D.2.length d] 26 (0, 0))) := by rw [hW]; exact blkOld (blkNew _ _ rfl)
  have K1 : Hid (W.heap[w.heap.size + 1]? = some (.cells #[.slice none 0 0, .slice none 0 0] 26 (0, 0))) := by rw [hW]; exact blkNew _ _ (by simp)
  have Hz : Hid (W.heap.size = w.heap.size + 2) := by rw [hW]; simp [Hid]
  have H := Lib.hid ((h).stay (kpB Hb0.out)); clear h
  have HW := Lib.hid hW; clear hW
  obtain ⟨c0, c1, _, _⟩ := blk2 K0.out
  rw [HW.out] at c0 c1
  have hn40 : D.2.length ≤ 40 := by rw [hD.2.1]; exact hD.1.2
  clear hD
  obtain ⟨W4, hW4⟩ : ∃ W4, W4 = W.alloc (.cells #[.slice a D.1.length ca, .slice none 0 0] 26) := ⟨_, rfl⟩
  have HX : Hid (ES W.heap.size W W.heap.size (.slice a D.1.length ca) (nots D 0) (.slice none 0 0) W4) := by
    rw [hW4]
    exact ⟨(Below.refl _ _).alloc (Nat.le_refl _) _, by simp, Nat.le_refl _, blkNew _ _ rfl, World.ownsRow_nil _ _ _ _⟩
  have HW4 := Lib.hid hW4
  obtain ⟨d0, d1, _, _⟩ := blk2 (blkBel (show Below W.heap.size W W4 by rw [hW4]; exact (Below.refl _ _).alloc (Nat.le_refl _) _) K0.out)
  rw [HW4.out, HW.out] at d1
  clear hW4
  go_enter Try.func91, Try.ntmps91
  go_wp2_with fail
  clear c0 c1 d0 d1
  rw [← HW.out, ← HW4.out]
  try rw [← Hz.out]
  clear HW4
  go_loopw [12] (fun i wr => ∃ (k : Nat) (vE : Value), k ≤ D.2.length ∧ i = .int .i64 k ∧ Hid (ES W.heap.size W W.heap.size (.slice a D.1.length ca) (nots D k) vE wr)) (fun i _ => D.2.length - (intOf i).toNat)
  case atStart => exact ⟨0, _, by omega, rfl, HX⟩
  case round =>
    clear HX
    obtain ⟨k, vE, hk, rfl, HX⟩ := hrel
    obtain ⟨aE, capE, rfl, _⟩ := (ownFl HX.out.en).shape
    obtain ⟨c0, c1, f0, f1⟩ := blk2 HX.out.b4
    by_cases hlt : k < D.2.length
    · obtain ⟨be, oe, e1, he⟩ := Bools.at H.out.2 hlt
      cases e1
      have he1 := kpB (S := fun _ => True) HX.out.bel _ _ trivial he
      have Hes := Lib.hid (nots_succ D hlt)
      have Hnl := Lib.hid (nots_len D hk)
      have hkI : (k : Int) < (D.2.length : Int) := by omega
      clear he
      generalize D.2[k] = x at *
      obtain ⟨es, hes⟩ : ∃ es, es = nots D k := ⟨_, rfl⟩
      rw [← hes] at HX Hes Hnl c1
      clear hes
      have hzr := HX.out.size
      go_wp2_with (
        refine appAt elBool (by decide) rfl (.tmp 17) (.tmp 20) rfl W.heap.size _ _ _ [.bool (!x)] wr rfl rfl rfl HX.out.en rfl (by simp [Value.oneCell']) (by have := Hnl.out; omega) HX.out.size ?_
        intro v4 w4 ho4 hg4 hat4
        obtain ⟨a4, cap4, rfl, _⟩ := (ownFl ho4.out).shape
        have HXn := Lib.hid (HX.out.mark hg4 ho4.out)
        have b4 := blkGrow hg4 HX.out.b4 (own_cells' HX.out.en HX.out.b4 (by decide))
        obtain ⟨c0', c1', f0', f1'⟩ := blk2 b4
        clear b4 c0 c1 f0 f1 hat4 ho4 hg4)
      rw [← Hes.out] at HXn
      go_roundw
      case rel => exact ⟨k + 1, _, by omega, by go_num, HXn⟩
      case measure => simp [intOf]; omega
    · obtain rfl : k = D.2.length := by omega
      have hnk : ¬ ((D.2.length : Int) < (D.2.length : Int)) := by omega
      have hen := (ownFl HX.out.en).fl
      have hq : nots D D.2.length = (othD D).2 := by simp [nots, othD]
      obtain ⟨z0, z1, y0, y1⟩ := blk2 (blkBel HX.out.bel K1.out)
      have HB := Lib.hid (Hb0.out.trans (HX.out.bel.mono Hb0.out.size))
      have HEn : Hid (Bools (W.heap.size ≤ ·) wr (.slice aE (nots D D.2.length).length capE) (othD D).2) := by
        unfold Bools Hid
        rw [← hq]
        exact hen
      clear hen HX hlt hk hq
      generalize (nots D D.2.length).length = m at *
      go_wp2
      have f0 := cell_setOther (o := 1) (u := .slice aE m capE) (cell_setSame (u := .slice a D.1.length ca) z0) (by omega)
      have f1 := cell_setSame (u := .slice aE m capE) (cell_setOther (o := 0) (u := .slice a D.1.length ca) z1 (by omega))
      refine bodyPost_ret (v := .agg #[.slice a D.1.length ca, .slice aE m capE]) (by simp [results, Try.results91, go_sem, f0, f1]) rfl ?_
      refine ⟨_, rfl, ?_, ?_⟩
      · exact (HB.out.setCell (by show w.heap.size ≤ w.heap.size + 1; omega) _).setCell (by show w.heap.size ≤ w.heap.size + 1; omega) _
      · refine Bools.mono (S := (W.heap.size ≤ ·)) (HEn.out.stay (fun ad u s e => ?_)) (fun _ _ => trivial)
        have h0 : W.heap.size ≤ ad.block := s
        have h1 := Hz.out
        have hne : ad.block ≠ w.heap.size + 1 := by omega
        exact kpSet ad u hne (kpSet ad u hne e)
set_option maxHeartbeats 1000000 in
theorem DfaOther_c (vn ve : Value) (D : DfaD) (w : World) (h : DfaR S w vn ve D) : Calls Try.prog 54 #[.agg #[vn, ve]] w (RD (orNo (okD D) (canon (lgD (othD D)))) w) := by
  obtain ⟨a, ca, b, d, rfl, rfl, hn, hm⟩ := (h).shapes
  obtain ⟨W, hW⟩ : ∃ W, W = (w.alloc (.cells #[.slice a D.1.length ca, .slice b D.2.length d] 26)).alloc (.cells #[.slice none 0 0, .slice none 0 0] 26) := ⟨_, rfl⟩
  have Hb0 : Hid (Below w.heap.size w W) := by rw [hW]; exact ((Below.refl _ _).alloc (Nat.le_refl _) _).alloc (by simp) _
  have K0 : Hid (W.heap[w.heap.size]? = some (.cells #[.slice a D.1.length ca, .slice b D.2.length d] 26 (0, 0))) := by rw [hW]; exact blkOld (blkNew _ _ rfl)
  have K1 : Hid (W.heap[w.heap.size + 1]? = some (.cells #[.slice none 0 0, .slice none 0 0] 26 (0, 0))) := by rw [hW]; exact blkNew _ _ (by simp)
  have Hz : Hid (W.heap.size = w.heap.size + 2) := by rw [hW]; simp [Hid]
  have H := Lib.hid ((h).stay (kpB Hb0.out)); clear h
  have HW := Lib.hid hW; clear hW
  obtain ⟨c0, c1, _, _⟩ := blk2 K0.out
  rw [HW.out] at c0 c1
  go_enter Try.func54, Try.ntmps54
  go_wp2_with fail
  rw [← HW.out] at c0 c1 ⊢
  clear c0 c1
  refine (DfaValid_c _ _ D W H.out).mono ?_
  rintro e w1 ⟨ok, rfl, hb1, hok⟩
  have K0' := Lib.hid (blkBel hb1 K0.out)
  have K1' := Lib.hid (blkBel hb1 K1.out)
  have H' := Lib.hid (H.out.stay (kpB hb1))
  have hbw := Lib.hid (Hb0.out.trans (hb1.mono Hb0.out.size))
  have hz1 : w.heap.size + 2 ≤ w1.heap.size := by have := hb1.size; have := Hz.out; omega
  obtain ⟨c0, c1, _, _⟩ := blk2 K0'.out
  obtain ⟨z0, z1, y0, y1⟩ := blk2 K1'.out
  clear hb1 H K0 K1 Hz Hb0 HW
  cases ok
  · have hno := Lib.hid (hbF hok)
    clear hok
    go_wp2
    have f0 := cell_setOther (o := 1) (u := .slice none 0 0) (cell_setSame (u := .slice none 0 0) z0) (by omega)
    have f1 := cell_setSame (u := .slice none 0 0) (cell_setOther (o := 0) (u := .slice none 0 0) z1 (by omega))
    refine bodyPost_ret (v := .agg #[.slice none 0 0, .slice none 0 0]) (by simp [results, Try.results54, go_sem, f0, f1]) rfl ?_
    rw [orNo_neg hno.out]
    exact RD.nil hbw.out hz1
  · have hyes := Lib.hid (hbT hok)
    clear hok
    go_wp2_with fail
    clear c0 c1 z0 z1 y0 y1
    refine (other_c _ _ D w1 H'.out hyes.out).mono ?_
    rintro e w2 ⟨v2, rfl, hb2, hv2⟩
    have HO : Hid (DfaR (fun _ => True) w2 (.slice a D.1.length ca) v2 (othD D)) := ⟨(H'.out.1.stay (kpB hb2)).mono (fun _ _ => trivial), hv2.out⟩
    have Kr := Lib.hid (blkBel hb2 K1'.out)
    have hbr := Lib.hid (hbw.out.trans (hb2.mono hbw.out.size))
    have hzr := hb2.size
    clear hb2 hv2
    go_wp2_with fail
    refine (minimize_c _ _ (othD D) w2 HO.out (oth_ok hyes.out)).mono ?_
    rintro e w6 ⟨r1, r2, rfl, hb6, hd6⟩
    have HRf := Lib.hid hd6.out.rd
    have HDf := hd6
    clear hd6
    generalize canon (lgD (othD D)) = C at *
    obtain ⟨an, cn', bn, cb, rfl, rfl, _, _⟩ := HRf.out.shapes
    obtain ⟨z0, z1, y0, y1⟩ := blk2 (blkBel hb6 Kr.out)
    have hb3 := hbr.out.trans (hb6.mono hbr.out.size)
    have hsz6 := hb6.size
    go_wp2
    have f0 := cell_setOther (o := 1) (u := .slice bn C.2.length cb) (cell_setSame (u := .slice an C.1.length cn') z0) (by omega)
    have f1 := cell_setSame (u := .slice bn C.2.length cb) (cell_setOther (o := 0) (u := .slice an C.1.length cn') z1 (by omega))
    refine bodyPost_ret (v := .agg #[.slice an C.1.length cn', .slice bn C.2.length cb]) (by simp [results, Try.results54, go_sem, f0, f1]) rfl ?_
    rw [orNo_pos hyes.out]
    exact RD.fin hb3 (by omega) (HDf.out.mono (fun b hb => ⟨⟨by omega, hb.2⟩, by omega⟩))
end Go.Proofs.Ytebcnamfpajneaa
