/- Parts and expressions: which are valid. Lists of at most 2^20 parts. -/
import Derived.Test.YtgihihnbapnnjaaWrd
import Derived.Test.YtgihihnbapnnjaaApp
namespace Go.Proofs.Ytgihihnbapnnjaa
open Go.RowKit
set_option maxRecDepth 100000
variable {S : Nat → Prop}

def pOk (x y : Int) : Prop := (x = 3 ∧ 0 ≤ y ∧ y ≤ 2) ∨ (x ≠ 3 ∧ 1 ≤ x ∧ x ≤ 8 ∧ y = 0)
instance (x y : Int) : Decidable (pOk x y) := inferInstanceAs (Decidable (_ ∨ _))
def pNeeds (x : Int) : Nat := if x = 1 ∨ x = 2 ∨ x = 3 then 0 else if x = 7 ∨ x = 8 then 1 else 2
/-- How many expressions stand behind each other, after each part. -/
def dstep (o : Option Nat) (p : Int × Int) : Option Nat := o.bind fun d => if pOk p.1 p.2 ∧ pNeeds p.1 ≤ d then some (d - pNeeds p.1 + 1) else none
def dep (e : List (Int × Int)) : Option Nat := e.foldl dstep (some 0)
def ExprOk (e : List (Int × Int)) : Prop := dep e = some 1 ∧ e.length ≤ 60
theorem dstep_none (e : List (Int × Int)) : e.foldl dstep none = none := by induction e with | nil => rfl | cons p t ih => exact ih
theorem dep_snoc (e : List (Int × Int)) (p : Int × Int) : dep (e ++ [p]) = dstep (dep e) p := by simp [dep]
theorem dep_take_none {e : List (Int × Int)} {k : Nat} (h : dep (e.take k) = none) : dep e = none := by
  have : e = e.take k ++ e.drop k := (List.take_append_drop k e).symm
  rw [this]
  unfold dep at h ⊢
  rw [List.foldl_append, h, dstep_none]
theorem dep_le (e : List (Int × Int)) : ∀ d, dep e = some d → d ≤ e.length := by
  have key : ∀ e : List (Int × Int), ∀ o : Nat, ∀ d, e.foldl dstep (some o) = some d → d ≤ o + e.length := by
    intro e
    induction e with
    | nil => intro o d h; simp at h; omega
    | cons p t ih =>
      intro o d h
      simp only [List.foldl_cons] at h
      unfold dstep at h
      simp only [Option.bind_some] at h
      split at h
      · have := ih _ _ h
        simp only [List.length_cons]; omega
      · rw [show (fun (o : Option Nat) (p : Int × Int) => o.bind fun d => if pOk p.1 p.2 ∧ pNeeds p.1 ≤ d then some (d - pNeeds p.1 + 1) else none) = dstep from rfl, dstep_none] at h
        cases h
  intro d h
  have := key e 0 d h
  omega

theorem isLetter_c (x : Int) (w : World) : Calls Try.prog 175 #[.int .i64 x] w (RB w (0 ≤ x ∧ x ≤ 2)) := by
  go_enter Try.func175, Try.ntmps175
  go_wp2_with fail
  refine (within_c _ _ _ _).mono ?_
  rintro e w' ⟨b, rfl, rfl, hb⟩
  go_wp2
  go_ret
  exact ⟨b, rfl, rfl, hb⟩
theorem PartValid_c (x y : Int) (w : World) : Calls Try.prog 160 #[.agg #[.int .i64 x, .int .i64 y]] w (RBn w (pOk x y)) := by
  have hB : Below w.heap.size w (w.alloc (.cells #[.int .i64 x, .int .i64 y] 71)) := (Below.refl _ _).alloc (Nat.le_refl _) _
  by_cases h3 : x = 3
  · have e3 : (x == 3) = true := by simp [h3]
    have H3 := Lib.hid h3; clear h3
    go_enter Try.func160, Try.ntmps160
    go_wp2_with fail
    refine (isLetter_c _ _).mono ?_
    rintro e w' ⟨b, rfl, rfl, hb⟩
    go_wp2
    go_ret
    exact ⟨b, rfl, hB, hb.out.trans ⟨fun h => .inl ⟨H3.out, h⟩, fun h => by rcases h with h | h; exact h.2; exact absurd H3.out h.1⟩⟩
  · have e3 : (x == 3) = false := by simpa using h3
    have H3 := Lib.hid h3; clear h3
    go_enter Try.func160, Try.ntmps160
    go_wp2_with fail
    refine (within_c _ _ _ _).mono ?_
    rintro e w' ⟨b, rfl, rfl, hb⟩
    cases b
    · have hp := Lib.hid (hbF hb); clear hb
      go_wp2
      go_ret
      exact RBn.mk hB ⟨nofun, fun h => by rcases h with h | h; exact absurd h.1 H3.out; exact absurd ⟨h.2.1, h.2.2.1⟩ hp.out⟩
    · have hp := Lib.hid (hbT hb); clear hb
      go_wp2
      go_ret
      exact RBn.mk hB ⟨fun h => .inr ⟨H3.out, hp.out.1, hp.out.2, by simpa using h⟩, fun h => by rcases h with h | h; exact absurd h.1 H3.out; simpa using h.2.2.2⟩
theorem needs_c (x y : Int) (w : World) : Calls Try.prog 106 #[.agg #[.int .i64 x, .int .i64 y]] w (RIn w fun n => n = pNeeds x ∧ 0 ≤ n ∧ n ≤ 2) := by
  have hB : Below w.heap.size w (w.alloc (.cells #[.int .i64 x, .int .i64 y] 71)) := (Below.refl _ _).alloc (Nat.le_refl _) _
  rcases (by omega : x = 1 ∨ x = 2 ∨ x = 3 ∨ x = 7 ∨ x = 8 ∨ (x ≠ 1 ∧ x ≠ 2 ∧ x ≠ 3 ∧ x ≠ 7 ∧ x ≠ 8)) with rfl | rfl | rfl | rfl | rfl | ⟨h1, h2, h3, h7, h8⟩
  case inr.inr.inr.inr.inr =>
    have e1 : (x == 1) = false := by simpa using h1
    have e2 : (x == 2) = false := by simpa using h2
    have e3 : (x == 3) = false := by simpa using h3
    have e7 : (x == 7) = false := by simpa using h7
    have e8 : (x == 8) = false := by simpa using h8
    have H := Lib.hid (show (2 : Int) = pNeeds x by simp [pNeeds, h1, h2, h3, h7, h8])
    clear h1 h2 h3 h7 h8
    go_enter Try.func106, Try.ntmps106
    go_wp2
    go_ret
    exact RIn.mk hB ⟨H.out, by omega, by omega⟩
  all_goals
    go_enter Try.func106, Try.ntmps106
    go_wp2
    go_ret
    exact RIn.mk hB ⟨by decide, by omega, by omega⟩
theorem sPartValid_c (x y : Int) (w : World) : Calls Try.prog 159 #[.agg #[.int .i64 x, .int .i64 y]] w (RBn w (pOk x y)) := by
  have hB : Below w.heap.size w (w.alloc (.cells #[.int .i64 x, .int .i64 y] 71)) := (Below.refl _ _).alloc (Nat.le_refl _) _
  by_cases h3 : x = 3
  · have e3 : (x == 3) = true := by simp [h3]
    have n3 : (x != 3) = false := by simp [h3]
    have h18 : 1 ≤ x ∧ x ≤ 8 := by omega
    have H18 := Lib.hid h18; clear h18
    have H3 := Lib.hid h3; clear h3
    go_enter Try.func159, Try.ntmps159
    go_wp2_with fail
    refine (l1In_c _ _ _ _).mono ?_
    rintro e w' ⟨b, rfl, rfl, hb⟩
    cases b
    · exact (hbF hb H18.out).elim
    clear hb
    go_wp2_with fail
    refine (l1In_c _ _ _ _).mono ?_
    rintro e w' ⟨b, rfl, rfl, hb⟩
    cases b
    · have hp := Lib.hid (hbF hb); clear hb
      go_wp2
      go_ret
      exact RBn.mk hB ⟨nofun, fun h => by rcases h with h | h; exact absurd h.2 hp.out; exact absurd H3.out h.1⟩
    · have hp := Lib.hid (hbT hb); clear hb
      go_wp2
      go_ret
      exact RBn.mk hB ⟨fun _ => .inl ⟨H3.out, hp.out⟩, fun _ => rfl⟩
  · have e3 : (x == 3) = false := by simpa using h3
    have n3 : (x != 3) = true := by simpa using h3
    have H3 := Lib.hid h3; clear h3
    go_enter Try.func159, Try.ntmps159
    go_wp2_with fail
    refine (l1In_c _ _ _ _).mono ?_
    rintro e w' ⟨b, rfl, rfl, hb⟩
    cases b
    · have hp := Lib.hid (hbF hb); clear hb
      go_wp2
      go_ret
      exact RBn.mk hB ⟨nofun, fun h => by rcases h with h | h; exact absurd h.1 H3.out; exact absurd ⟨h.2.1, h.2.2.1⟩ hp.out⟩
    · have hp := Lib.hid (hbT hb); clear hb
      go_wp2
      go_ret
      exact RBn.mk hB ⟨fun h => .inr ⟨H3.out, hp.out.1, hp.out.2, by simpa using h⟩, fun h => by rcases h with h | h; exact absurd h.1 H3.out; simpa using h.2.2.2⟩
theorem sPartNeeds_c (x y : Int) (w : World) : Calls Try.prog 120 #[.agg #[.int .i64 x, .int .i64 y]] w (RIn w fun n => (pOk x y ∧ n = pNeeds x ∧ 0 ≤ n ∧ n ≤ 2) ∨ (¬ pOk x y ∧ n = -1)) := by
  have hB : Below w.heap.size w (w.alloc (.cells #[.int .i64 x, .int .i64 y] 71)) := (Below.refl _ _).alloc (Nat.le_refl _) _
  rcases (by omega : x = 1 ∨ x = 2 ∨ x = 3 ∨ x = 7 ∨ x = 8 ∨ (x ≠ 1 ∧ x ≠ 2 ∧ x ≠ 3 ∧ x ≠ 7 ∧ x ≠ 8)) with rfl | rfl | rfl | rfl | rfl | ⟨h1, h2, h3, h7, h8⟩
  case inr.inr.inr.inr.inr =>
    have e1 : (x == 1) = false := by simpa using h1
    have e2 : (x == 2) = false := by simpa using h2
    have e3 : (x == 3) = false := by simpa using h3
    have e7 : (x == 7) = false := by simpa using h7
    have e8 : (x == 8) = false := by simpa using h8
    have H := Lib.hid (show (2 : Int) = pNeeds x by simp [pNeeds, h1, h2, h3, h7, h8])
    clear h1 h2 h3 h7 h8
    go_enter Try.func120, Try.ntmps120
    go_wp2_with fail
    refine (sPartValid_c _ _ _).mono ?_
    rintro e w1 ⟨b, rfl, hb1, hp⟩
    have k0 := blkBel hb1 (blkNew w (.cells #[.int .i64 x, .int .i64 y] 71) rfl)
    obtain ⟨c0, c1, _, _⟩ := blk2 k0
    have hB1 := hB.trans (hb1.mono hB.size)
    cases b
    · have hq := Lib.hid (hbF hp); clear hp
      go_wp2
      go_ret
      exact RIn.mk hB1 (.inr ⟨hq.out, rfl⟩)
    · have hq := Lib.hid (hbT hp); clear hp
      go_wp2
      go_ret
      exact RIn.mk hB1 (.inl ⟨hq.out, H.out, by omega, by omega⟩)
  all_goals
    go_enter Try.func120, Try.ntmps120
    go_wp2_with fail
    refine (sPartValid_c _ _ _).mono ?_
    rintro e w1 ⟨b, rfl, hb1, hp⟩
    have k0 := blkBel hb1 (blkNew w (.cells #[.int .i64 _, .int .i64 y] 71) rfl)
    obtain ⟨c0, c1, _, _⟩ := blk2 k0
    have hB1 := hB.trans (hb1.mono hB.size)
    clear k0
    cases b
    · have hq := Lib.hid (hbF hp); clear hp
      go_wp2
      go_ret
      exact RIn.mk hB1 (.inr ⟨hq.out, rfl⟩)
    · have hq := Lib.hid (hbT hp); clear hp
      go_wp2
      go_ret
      exact RIn.mk hB1 (.inl ⟨hq.out, by decide, by omega, by omega⟩)
end Go.Proofs.Ytgihihnbapnnjaa
