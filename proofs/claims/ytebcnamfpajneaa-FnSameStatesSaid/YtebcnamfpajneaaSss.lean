/- Equal states: the program's and the reference's. -/
import Derived.Test.YtebcnamfpajneaaCls
import Derived.Test.YtebcnamfpajneaaGC
set_option linter.unusedSimpArgs false
set_option linter.unusedVariables false
set_option linter.unusedSectionVars false
namespace Go.Proofs.Ytebcnamfpajneaa
open Go.RowKit
set_option maxRecDepth 100000
variable {S T : Nat → Prop}
open Classical in
noncomputable def ssL (D : DfaD) : List Int := if okD D then fL D (cls D) else []
theorem ssL_pos {D : DfaD} (h : okD D) : ssL D = fL D (cls D) := if_pos h
theorem ssL_neg {D : DfaD} (h : ¬ okD D) : ssL D = [] := if_neg h
theorem ssL_small (D : DfaD) : (ssL D).length ≤ 1000000000000 := by
  by_cases h : okD D
  · rw [ssL_pos h, fL_len]; have := h.1.2; omega
  · rw [ssL_neg h]; simp
theorem RW.nil {w w' : World} {v : Value} (hb : Below w.heap.size w w') (hv : w'.ownsRow w.heap.size 3 1 v 0 []) : RW 0 [] w (.returned v) w' := ⟨v, rfl, hb, ownFl hv⟩
theorem RW.own {w w' : World} {v : Value} {e : TypeId} {n : Nat} {cs : List Value} (hb : Below w.heap.size w w') (hv : w'.ownsRow w.heap.size e 1 v n cs) : RW n cs w (.returned v) w' := ⟨v, rfl, hb, ownFl hv⟩
set_option maxHeartbeats 400000 in
theorem SameStates_c (vn ve : Value) (D : DfaD) (w : World) (h : DfaR S w vn ve D) : Calls Try.prog 20 #[.agg #[vn, ve]] w (RW (ssL D).length ((ssL D).map (.int .i64 ·)) w) := by
  obtain ⟨a, c, b, d, rfl, rfl, hn, hm⟩ := (h).shapes
  obtain ⟨W, hW⟩ : ∃ W, W = w.alloc (.cells #[.slice a D.1.length c, .slice b D.2.length d] 26) := ⟨_, rfl⟩
  have Hb0 : Hid (Below w.heap.size w W) := by rw [hW]; exact (Below.refl _ _).alloc (Nat.le_refl _) _
  have c0 : W.cell? ⟨w.heap.size, 0, none⟩ = some (.slice a D.1.length c) := by rw [hW, World.cell?_alloc_mark]; rfl
  have c1 : W.cell? ⟨w.heap.size, 1, none⟩ = some (.slice b D.2.length d) := by rw [hW, World.cell?_alloc_mark]; rfl
  have K0 : Hid (W.heap[w.heap.size]? = some (.cells #[.slice a D.1.length c, .slice b D.2.length d] 26 (0, 0))) := by rw [hW]; exact blkNew _ _ rfl
  have Hz : Hid (W.heap.size = w.heap.size + 1) := by rw [hW]; simp [Hid]
  have H := Lib.hid ((h).stay (kpB Hb0.out)); clear h
  have HW := Lib.hid hW; clear hW
  rw [HW.out] at c0 c1
  go_enter Try.func20, Try.ntmps20
  go_wp2_with fail
  clear c0 c1
  rw [← HW.out]
  refine (DfaValid_c _ _ D W H.out).mono ?_
  rintro e w1 ⟨ok, rfl, hb1, hok⟩
  have hB := Hb0.out.trans (hb1.mono Hb0.out.size)
  obtain ⟨c0, c1, _, _⟩ := blk2 (blkBel hb1 K0.out)
  cases ok
  · have hno := hbF hok
    clear hok
    go_wp2
    go_ret
    rw [ssL_neg hno]
    exact RW.nil hB (World.ownsRow_nil _ _ _ _)
  · have hyes := Lib.hid (hbT hok)
    clear hok
    go_wp2_with fail
    refine (sameStates_c _ _ D w1 (H.out.stay (kpB hb1)) hyes.out).mono ?_
    rintro e w2 ⟨v, rfl, hb2, hv⟩
    obtain ⟨g, rfl, hg, hrow⟩ := hv.out
    have HR := Lib.hid hrow
    have hlt : w.heap.size ≤ g := by have := hB.size; omega
    have hB2 := hB.trans (hb2.mono hB.size)
    have hn40 := hyes.out.1.2
    clear hv hrow hb2 hb1
    go_wp2
    go_ret
    rw [ssL_pos hyes.out, fL_len]
    refine ⟨_, rfl, hB2, ?_⟩
    have := Row.flW HR.out (n := D.1.length) (cap := D.1.length) (by rw [fL_len]) (Nat.le_refl _) (by unfold maxLen; omega)
    rw [fL_len] at this
    exact this.mono (fun b e => by subst e; exact hlt)
set_option maxHeartbeats 400000 in
theorem sSameStates_c (vn ve : Value) (D : DfaD) (w : World) (h : DfaR S w vn ve D) : Calls Try.prog 22 #[.agg #[vn, ve]] w (RW (ssL D).length ((ssL D).map (.int .i64 ·)) w) := by
  obtain ⟨a, c, b, d, rfl, rfl, hn, hm⟩ := (h).shapes
  obtain ⟨W, hW⟩ : ∃ W, W = w.alloc (.cells #[.slice a D.1.length c, .slice b D.2.length d] 26) := ⟨_, rfl⟩
  have Hb0 : Hid (Below w.heap.size w W) := by rw [hW]; exact (Below.refl _ _).alloc (Nat.le_refl _) _
  have c0 : W.cell? ⟨w.heap.size, 0, none⟩ = some (.slice a D.1.length c) := by rw [hW, World.cell?_alloc_mark]; rfl
  have c1 : W.cell? ⟨w.heap.size, 1, none⟩ = some (.slice b D.2.length d) := by rw [hW, World.cell?_alloc_mark]; rfl
  have K0 : Hid (W.heap[w.heap.size]? = some (.cells #[.slice a D.1.length c, .slice b D.2.length d] 26 (0, 0))) := by rw [hW]; exact blkNew _ _ rfl
  have Hz : Hid (W.heap.size = w.heap.size + 1) := by rw [hW]; simp [Hid]
  have H := Lib.hid ((h).stay (kpB Hb0.out)); clear h
  have HW := Lib.hid hW; clear hW
  rw [HW.out] at c0 c1
  go_enter Try.func22, Try.ntmps22
  go_wp2_with fail
  clear c0 c1
  rw [← HW.out]
  refine (sDfaValid_c _ _ D W H.out).mono ?_
  rintro e w1 ⟨ok, rfl, hb1, hok⟩
  have hB := Hb0.out.trans (hb1.mono Hb0.out.size)
  obtain ⟨c0, c1, _, _⟩ := blk2 (blkBel hb1 K0.out)
  cases ok
  · have hno := hbF hok
    clear hok
    have ho : Hid ((w1.alloc (.cells #[] 3)).ownsRow w.heap.size 3 1 (.slice (some ⟨w1.heap.size, 0, none⟩) 0 0) 0 []) := ownLit [] hB.size (by omega) rfl
    go_wp2
    go_ret
    rw [ssL_neg hno]
    exact RW.nil (hB.alloc hB.size _) ho.out
  · have hyes := Lib.hid (hbT hok)
    clear hok
    go_wp2_with fail
    refine (l10Classes_c _ _ D w1 (H.out.stay (kpB hb1)) hyes.out).mono ?_
    rintro e w2 ⟨v, rfl, hb2, hv⟩
    have hB2 := hB.trans (hb2.mono hB.size)
    have HV := Lib.hid (ownBase hv.out hB.size)
    clear hb2 hb1 hv
    go_wp2
    go_ret
    rw [ssL_pos hyes.out, fL_len, ← fK_fL]
    exact RW.own hB2 HV.out
end Go.Proofs.Ytebcnamfpajneaa
