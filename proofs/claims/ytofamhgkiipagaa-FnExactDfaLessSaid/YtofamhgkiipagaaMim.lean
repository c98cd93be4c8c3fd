/- Minimize: the program's answer. -/
import Derived.Test.YtofamhgkiipagaaMin
namespace Go.Proofs.Ytofamhgkiipagaa
open Go.RowKit
set_option maxRecDepth 100000
variable {S T : Nat → Prop}
open Classical in
/-- The automaton D where p holds, else the empty one. -/
noncomputable def orNo (p : Prop) (D : DfaD) : DfaD := if p then D else ([], [])
theorem orNo_pos {p : Prop} (h : p) (D : DfaD) : orNo p D = D := if_pos h
theorem orNo_neg {p : Prop} (h : ¬ p) (D : DfaD) : orNo p D = ([], []) := if_neg h
/-- The empty automaton reads from nil. -/
theorem dfaNil {S : Nat → Prop} {w : World} {q : Nat} (hq : S q) (ho : ∃ o, S o ∧ o ≠ q) : DfaW S w (.slice none 0 0) (.slice none 0 0) ([], []) := by
  obtain ⟨o, ho, hne⟩ := ho
  have hf : ∀ {P : Nat → Prop}, FlW P w (.slice none 0 0) 0 [] := ⟨none, 0, rfl, ⟨Nat.zero_le _, Nat.le_refl _, fun _ => rfl⟩, fun i hi => absurd hi (Nat.not_lt_zero _)⟩
  exact ⟨q, hq, ⟨o, fun _ => 0, fun _ => undef, ⟨ho, hne⟩, hf, fun i hi => absurd hi (Nat.not_lt_zero _), fun i j _ hj => absurd hj (Nat.not_lt_zero _)⟩, hf⟩
/-- The result's two cells are written. -/
theorem RD.fin {w wr : World} {B : Nat} {C : DfaD} {v1 v2 : Value} (hb : Below w.heap.size w wr) (hB : w.heap.size ≤ B) (hd : DfaW (fun b => (w.heap.size ≤ b ∧ b < wr.heap.size) ∧ b ≠ B) wr v1 v2 C) :
    RD C w (.returned (.agg #[v1, v2])) ((wr.setCell ⟨B, 0, none⟩ v1).setCell ⟨B, 1, none⟩ v2) := by
  refine ⟨_, _, rfl, (hb.setCell hB _).setCell hB _, (hd.stay (fun b hb _ => ?_)).mono (fun b hb => by simpa [World.setCell] using hb.1)⟩
  rw [Below.heap_setCell _ _ _ _ hb.2, Below.heap_setCell _ _ _ _ hb.2]
theorem RD.nil {w wr : World} (hb : Below w.heap.size w wr) (hz : w.heap.size + 2 ≤ wr.heap.size) :
    RD ([], []) w (.returned (.agg #[.slice none 0 0, .slice none 0 0])) ((wr.setCell ⟨w.heap.size + 1, 0, none⟩ (.slice none 0 0)).setCell ⟨w.heap.size + 1, 1, none⟩ (.slice none 0 0)) := by
  refine ⟨_, _, rfl, (hb.setCell (by simp) _).setCell (by simp) _, dfaNil (q := w.heap.size) ⟨Nat.le_refl _, ?_⟩ ⟨w.heap.size + 1, ⟨by omega, ?_⟩, by omega⟩⟩
  · simp [World.setCell]; omega
  · simp [World.setCell]; omega
set_option maxHeartbeats 1000000 in
theorem Minimize_c (vn ve : Value) (D : DfaD) (w : World) (h : DfaR S w vn ve D) : Calls Try.prog 38 #[.agg #[vn, ve]] w (RD (orNo (okD D) (canon (lgD D))) w) := by
  obtain ⟨a, ca, b, d, rfl, rfl, hn, hm⟩ := (h).shapes
  obtain ⟨W, hW⟩ : ∃ W, W = (w.alloc (.cells #[.slice a D.1.length ca, .slice b D.2.length d] 42)).alloc (.cells #[.slice none 0 0, .slice none 0 0] 42) := ⟨_, rfl⟩
  have Hb0 : Hid (Below w.heap.size w W) := by rw [hW]; exact ((Below.refl _ _).alloc (Nat.le_refl _) _).alloc (by simp) _
  have K0 : Hid (W.heap[w.heap.size]? = some (.cells #[.slice a D.1.length ca, .slice b D.2.length d] 42 (0, 0))) := by rw [hW]; exact blkOld (blkNew _ _ rfl)
  have K1 : Hid (W.heap[w.heap.size + 1]? = some (.cells #[.slice none 0 0, .slice none 0 0] 42 (0, 0))) := by rw [hW]; exact blkNew _ _ (by simp)
  have Hz : Hid (W.heap.size = w.heap.size + 2) := by rw [hW]; simp [Hid]
  have H := Lib.hid ((h).stay (kpB Hb0.out)); clear h
  have HW := Lib.hid hW; clear hW
  obtain ⟨c0, c1, _, _⟩ := blk2 K0.out
  rw [HW.out] at c0 c1
  go_enter Try.func38, Try.ntmps38
  go_wp2_with fail
  rw [← HW.out] at c0 c1 ⊢
  clear c0 c1
  refine (DfaValid_c _ _ D W H.out).mono ?_
  rintro e w1 ⟨ok, rfl, hb1, hok⟩
  have K0' := Lib.hid (blkBel hb1 K0.out)
  have K1' := Lib.hid (blkBel hb1 K1.out)
  have H' := Lib.hid (H.out.stay (kpB hb1))
  have hbw := Lib.hid (Hb0.out.trans (hb1.mono Hb0.out.size))
  have hz1 : w.heap.size + 2 ≤ w1.heap.size := by have := hb1.size; have := Hz.out; omega
  obtain ⟨c0, c1, _, _⟩ := blk2 K0'.out
  obtain ⟨z0, z1, y0, y1⟩ := blk2 K1'.out
  clear hb1 H K0 K1 Hz Hb0 HW
  cases ok
  · have hno := Lib.hid (hbF hok)
    clear hok
    go_wp2
    have f0 := cell_setOther (o := 1) (u := .slice none 0 0) (cell_setSame (u := .slice none 0 0) z0) (by omega)
    have f1 := cell_setSame (u := .slice none 0 0) (cell_setOther (o := 0) (u := .slice none 0 0) z1 (by omega))
    refine bodyPost_ret (v := .agg #[.slice none 0 0, .slice none 0 0]) (by simp [results, Try.results38, go_sem, f0, f1]) rfl ?_
    rw [orNo_neg hno.out]
    exact RD.nil hbw.out hz1
  · have hyes := Lib.hid (hbT hok)
    clear hok
    go_wp2_with fail
    refine (minimize_c _ _ D w1 H'.out hyes.out).mono ?_
    rintro e w2 ⟨v1, v2, rfl, hb2, hd⟩
    obtain ⟨an, cn', bn, cb, rfl, rfl, _, _⟩ := hd.out.rd.shapes
    obtain ⟨z0', z1', y0', y1'⟩ := blk2 (blkBel hb2 K1'.out)
    have hb3 := hbw.out.trans (hb2.mono hbw.out.size)
    generalize canon (lgD D) = C at *
    clear c0 c1 z0 z1 y0 y1
    go_wp2
    have f0 := cell_setOther (o := 1) (u := .slice bn C.2.length cb) (cell_setSame (u := .slice an C.1.length cn') z0') (by omega)
    have f1 := cell_setSame (u := .slice bn C.2.length cb) (cell_setOther (o := 0) (u := .slice an C.1.length cn') z1' (by omega))
    refine bodyPost_ret (v := .agg #[.slice an C.1.length cn', .slice bn C.2.length cb]) (by simp [results, Try.results38, go_sem, f0, f1]) rfl ?_
    rw [orNo_pos hyes.out]
    exact RD.fin hb3 (by omega) (hd.out.mono (fun b hb => ⟨⟨by omega, hb.2⟩, by omega⟩))
end Go.Proofs.Ytofamhgkiipagaa
