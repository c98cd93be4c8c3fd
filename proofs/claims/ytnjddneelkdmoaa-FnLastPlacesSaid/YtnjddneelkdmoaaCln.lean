/- slices.Clone at ints and moves. -/
import Derived.Lib.SliceRun
import Derived.Test.YtnjddneelkdmoaaGD
set_option linter.unusedSimpArgs false
set_option linter.unusedVariables false
set_option linter.unusedSectionVars false
namespace Go.Proofs.Ytnjddneelkdmoaa
open Go.RowKit
set_option maxRecDepth 100000
variable {S T : Nat → Prop}
set_option maxHeartbeats 400000 in
theorem cloneInt_c (v : Value) (xs : List Int) (w : World) (h : Ints S w v xs) (hn : xs.length ≤ 100000000) : Calls Try.prog 204 #[v] w (RVn w fun v w' => OwnI w' w.heap.size v xs) := by
  obtain ⟨a, cap, rfl, _⟩ := h.shape
  rcases a with _ | ad
  · obtain ⟨hc, _, hl⟩ := Fl.nocap h
    have hx : xs = [] := List.eq_nil_of_length_eq_zero hl
    subst hx
    subst hc
    clear h
    have qT : ∀ (w : World) (a : Option Addr) (n c n' c' : Nat), (binOp .eql 34 (.slice a n c) (.slice none n' c')).run Try.prog w = .ok (.bool a.isNone) w := fun w a n c n' c' => Lib.run_eql_slice_nil w _ _ a n c n' c' Try.underlying34
    go_enter Try.func204, Try.ntmps204
    go_wp2
    go_ret
    exact RVn.mk (Below.refl _ _) (OwnI.nil _ _)
  · obtain ⟨W, hW⟩ : ∃ W, W = w.alloc (.cells #[] 3) := ⟨_, rfl⟩
    have Hb0 : Hid (Below w.heap.size w W) := by rw [hW]; exact (Below.refl _ _).alloc (Nat.le_refl _) _
    have HO : Hid (OwnI W w.heap.size (.slice (some ⟨w.heap.size, 0, none⟩) 0 0) []) := by rw [hW]; exact ownLit (n := 0) [] (Nat.le_refl _) (by omega) rfl
    have H := Lib.hid (h.stay (kpB Hb0.out)); clear h
    have HW := Lib.hid hW; clear hW
    have hbs := Hb0.out.size
    have qT : ∀ (w : World) (a : Option Addr) (n c n' c' : Nat), (binOp .eql 34 (.slice a n c) (.slice none n' c')).run Try.prog w = .ok (.bool a.isNone) w := fun w a n c n' c' => Lib.run_eql_slice_nil w _ _ a n c n' c' Try.underlying34
    go_enter Try.func204, Try.ntmps204
    go_wp2_with (rw [← HW.out]; at_builtin; refine appMany (S := S) elInt (by decide) rfl (.tmp 5) (.tmp 6) rfl w.heap.size _ _ 0 xs.length [] (xs.map (.int .i64 ·)) W rfl rfl HO.out H.out (by simp) (by simp [Value.oneCell']) (by omega) hbs ?_; intro v2 w2 h2 hg2)
    go_ret
    refine RVn.mk (Hb0.out.grown hg2 hbs (fun k hk => (World.ownsRow.lt HO.out k hk).1)) ?_
    have := h2.out
    rw [Nat.zero_add, List.nil_append] at this
    exact this
theorem cells3_one (xs : List (Int × Int × Int)) : ∀ u ∈ cells3 xs, u.oneCell' = true := by
  intro u hu
  unfold cells3 at hu
  rw [List.mem_flatMap] at hu
  obtain ⟨p, _, h⟩ := hu
  simp at h
  rcases h with rfl | rfl | rfl <;> rfl
set_option maxHeartbeats 400000 in
theorem cloneMove_c (v : Value) (xs : List (Int × Int × Int)) (w : World) (h : Trips S w v xs) (hn : xs.length ≤ 100000000) : Calls Try.prog 205 #[v] w (RVn w fun v w' => Own3 w' w.heap.size 40 v xs) := by
  obtain ⟨a, cap, rfl, _⟩ := h.shape
  rcases a with _ | ad
  · obtain ⟨hc, _, hl⟩ := Fl.nocap h
    have hx : xs = [] := List.eq_nil_of_length_eq_zero hl
    subst hx
    subst hc
    clear h
    have qT : ∀ (w : World) (a : Option Addr) (n c n' c' : Nat), (binOp .eql 33 (.slice a n c) (.slice none n' c')).run Try.prog w = .ok (.bool a.isNone) w := fun w a n c n' c' => Lib.run_eql_slice_nil w _ _ a n c n' c' Try.underlying33
    go_enter Try.func205, Try.ntmps205
    go_wp2
    go_ret
    exact RVn.mk (Below.refl _ _) (Own3.nil _ _ _)
  · obtain ⟨W, hW⟩ : ∃ W, W = w.alloc (.cells #[] 40) := ⟨_, rfl⟩
    have Hb0 : Hid (Below w.heap.size w W) := by rw [hW]; exact (Below.refl _ _).alloc (Nat.le_refl _) _
    have HO : Hid (Own3 W w.heap.size 40 (.slice (some ⟨w.heap.size, 0, none⟩) 0 0) []) := by rw [hW]; exact ownLit (n := 0) [] (Nat.le_refl _) (by omega) rfl
    have H := Lib.hid (h.stay (kpB Hb0.out)); clear h
    have HW := Lib.hid hW; clear hW
    have hbs := Hb0.out.size
    have qT : ∀ (w : World) (a : Option Addr) (n c n' c' : Nat), (binOp .eql 33 (.slice a n c) (.slice none n' c')).run Try.prog w = .ok (.bool a.isNone) w := fun w a n c n' c' => Lib.run_eql_slice_nil w _ _ a n c n' c' Try.underlying33
    go_enter Try.func205, Try.ntmps205
    go_wp2_with (rw [← HW.out]; at_builtin; refine appMany (S := S) elMove (by decide) rfl (.tmp 5) (.tmp 6) rfl w.heap.size _ _ 0 xs.length [] (cells3 xs) W rfl rfl HO.out H.out (by rw [length_cells3]; omega) (cells3_one _) (by omega) hbs ?_; intro v2 w2 h2 hg2)
    go_ret
    refine RVn.mk (Hb0.out.grown hg2 hbs (fun k hk => (World.ownsRow.lt HO.out k hk).1)) ?_
    have := h2.out
    rw [Nat.zero_add, List.nil_append] at this
    exact this
end Go.Proofs.Ytnjddneelkdmoaa
