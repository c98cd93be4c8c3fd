/- The automaton of a part that needs no operands: the program's. -/
import Derived.Test.YtnjddneelkdmoaaBns
set_option linter.unusedSimpArgs false
set_option linter.unusedVariables false
set_option linter.unusedSectionVars false
namespace Go.Proofs.Ytnjddneelkdmoaa
open Go.RowKit
set_option maxRecDepth 100000
variable {S T : Nat → Prop}
def leafD (x y : Int) : NfaD := if x = 1 then nfa0 else if x = 2 then ⟨1, [], [0], [0]⟩ else ⟨2, [(0, y, 1)], [0], [1]⟩
set_option maxHeartbeats 1000000 in
theorem leafNfa_c (x y : Int) (w : World) : Calls Try.prog 105 #[.agg #[.int .i64 x, .int .i64 y]] w (RNf w (leafD x y)) := by
  obtain ⟨W, hW⟩ : ∃ W, W = (w.alloc (.cells #[.int .i64 x, .int .i64 y] 52)).alloc (.cells #[.int .i64 0, .slice none 0 0, .slice none 0 0, .slice none 0 0] 36) := ⟨_, rfl⟩
  have Hb : Hid (Below w.heap.size w W) := by rw [hW]; exact ((Below.refl _ _).alloc (Nat.le_refl _) _).alloc (by simp) _
  have KP : Hid (W.heap[w.heap.size]? = some (.cells #[.int .i64 x, .int .i64 y] 52 (0, 0))) := by rw [hW]; exact blkOld (blkNew _ _ rfl)
  have k2 : Hid (W.heap[w.heap.size + 1]? = some (.cells #[.int .i64 0, .slice none 0 0, .slice none 0 0, .slice none 0 0] 36 (0, 0))) := by rw [hW]; exact blkNew _ _ (by simp)
  have HW := Lib.hid hW; clear hW
  have hbs := Hb.out.size
  obtain ⟨p0, p1, _, _⟩ := blk2 KP.out
  by_cases h1 : x = 1
  · subst h1
    obtain ⟨e0, e1, e2, e3⟩ := blk4 k2.out
    have g1 := blkFz k2.out
    go_enter Try.func105, Try.ntmps105
    go_wp2_with (rw [← HW.out])
    refine bodyPost_ret (v := .agg #[.int .i64 0, .slice none 0 0, .slice none 0 0, .slice none 0 0]) (by simp [results, Try.results105, go_sem, e0, e1, e2, e3, g1]) rfl ⟨_, _, _, rfl, bel4 Hb.out (by omega) _ _ _ _, NfaO.nil _ _⟩
  · have e1' : (x == 1) = false := by simpa using h1
    by_cases h2 : x = 2
    · subst h2
      have hk : ((W.alloc (.cells #[.int .i64 0] 3)).alloc (.cells #[.int .i64 0] 3)).heap[w.heap.size + 1]? = _ := blkOld (blkOld k2.out)
      obtain ⟨l1, l2, l3⟩ := litTwo W w.heap.size hbs 0 0
      have hN : NfaO w.heap.size ((W.alloc (.cells #[.int .i64 0] 3)).alloc (.cells #[.int .i64 0] 3)) (.slice none 0 0) (.slice (some ⟨W.heap.size, 0, none⟩) 1 1) (.slice (some ⟨W.heap.size + 1, 0, none⟩) 1 1) ⟨1, [], [0], [0]⟩ := ⟨Own3.nil _ _ _, l1, l2, l3⟩
      have hbU : Below w.heap.size w ((W.alloc (.cells #[.int .i64 0] 3)).alloc (.cells #[.int .i64 0] 3)) := (Hb.out.alloc hbs _).alloc (by simp; omega) _
      obtain ⟨e0, e1, e2, e3⟩ := blk4 hk
      have g1 := blkFz hk
      have Hk := Lib.hid hk; have HNU := Lib.hid hN; have HbU := Lib.hid hbU; clear hk hN hbU l1 l2 l3 h1
      go_enter Try.func105, Try.ntmps105
      go_wp2_with (rw [← HW.out])
      refine bodyPost_ret (v := .agg #[.int .i64 1, .slice none 0 0, .slice (some ⟨W.heap.size, 0, none⟩) 1 1, .slice (some ⟨W.heap.size + 1, 0, none⟩) 1 1]) (by simp [results, Try.results105, go_sem, e0, e1, e2, e3, g1]) rfl ⟨_, _, _, rfl, bel4 HbU.out (by omega) _ _ _ _, HNU.out.set4 _ (by omega) Hk.out (by decide) _ _ _ _⟩
    · have e2' : (x == 2) = false := by simpa using h2
      have HV : Hid (leafD x y = ⟨2, [(0, y, 1)], [0], [1]⟩) := Lib.hid (by unfold leafD; rw [if_neg h1, if_neg h2])
      have hk : (((W.alloc (.cells #[.int .i64 0, .int .i64 y, .int .i64 1] 40)).alloc (.cells #[.int .i64 0] 3)).alloc (.cells #[.int .i64 1] 3)).heap[w.heap.size + 1]? = _ := blkOld (blkOld (blkOld k2.out))
      obtain ⟨l1, l2, l3⟩ := litTwo (W.alloc (.cells #[.int .i64 0, .int .i64 y, .int .i64 1] 40)) w.heap.size (by simp; omega) 0 1
      have l0 : Own3 (((W.alloc (.cells #[.int .i64 0, .int .i64 y, .int .i64 1] 40)).alloc (.cells #[.int .i64 0] 3)).alloc (.cells #[.int .i64 1] 3)) w.heap.size 40 (.slice (some ⟨W.heap.size, 0, none⟩) 1 1) [(0, y, 1)] := ownStay (ownStay (ownLit (n := 1) _ hbs (by omega) rfl) ((Below.refl _ _).alloc (Nat.le_refl _) _)) ((Below.refl _ _).alloc (Nat.le_refl _) _)
      rw [World.size_alloc] at l1 l2 l3
      have hN : NfaO w.heap.size (((W.alloc (.cells #[.int .i64 0, .int .i64 y, .int .i64 1] 40)).alloc (.cells #[.int .i64 0] 3)).alloc (.cells #[.int .i64 1] 3)) (.slice (some ⟨W.heap.size, 0, none⟩) 1 1) (.slice (some ⟨W.heap.size + 1, 0, none⟩) 1 1) (.slice (some ⟨W.heap.size + 1 + 1, 0, none⟩) 1 1) ⟨2, [(0, y, 1)], [0], [1]⟩ := ⟨l0, l1, l2, l3⟩
      have hbU : Below w.heap.size w (((W.alloc (.cells #[.int .i64 0, .int .i64 y, .int .i64 1] 40)).alloc (.cells #[.int .i64 0] 3)).alloc (.cells #[.int .i64 1] 3)) := ((Hb.out.alloc hbs _).alloc (by simp; omega) _).alloc (by simp; omega) _
      obtain ⟨e0, e1, e2, e3⟩ := blk4 hk
      have g1 := blkFz hk
      have Hk := Lib.hid hk; have HNU := Lib.hid hN; have HbU := Lib.hid hbU; clear hk hN hbU l1 l2 l3 l0 h1 h2
      go_enter Try.func105, Try.ntmps105
      go_wp2_with (rw [← HW.out])
      refine bodyPost_ret (v := .agg #[.int .i64 2, .slice (some ⟨W.heap.size, 0, none⟩) 1 1, .slice (some ⟨W.heap.size + 1, 0, none⟩) 1 1, .slice (some ⟨W.heap.size + 1 + 1, 0, none⟩) 1 1]) (by simp [results, Try.results105, go_sem, e0, e1, e2, e3, g1]) rfl ⟨_, _, _, by rw [HV.out], bel4 HbU.out (by omega) _ _ _ _, by rw [HV.out]; exact HNU.out.set4 _ (by omega) Hk.out (by decide) _ _ _ _⟩
end Go.Proofs.Ytnjddneelkdmoaa
