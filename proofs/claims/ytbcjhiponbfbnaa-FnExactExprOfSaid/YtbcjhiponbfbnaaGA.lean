/- Words and small lemmas that all walks of this seat use: posts of calls, readings of slices. No condition.
Walks of the word functions: within, areLetters, TextValid, WordValid and their reference. Strings of at most maxLen bytes.
Automata as plain data: exploring from a first state, languages, the smallest automaton. No condition.
What memory holds, as data: slices of ints, bools, bytes, strings, parts, moves, spans, tokens, slices of slices of ints, automata. No condition.
append of one element to a slice of the call's own. Slices of at most 10^9 elements.
Lists of ints, bools that a call made: append, cut off, stores elsewhere.
Lists that a call made, of elements of two or three numbers: append of one element. Lengths of at most 10^9.
The call answers this value, in new memory at most. No condition.
Exploring, step by step. Plain. No condition.
Leading states: the plain law. No program.
The first word of a language, shorter words first, letters in order among those of the same length. Plain. No condition. -/
import Derived.WalkKit
import Derived.WalkSpells
import Derived.WalkLawsBesides
import Derived.LoopTactic
import Derived.Below
import Derived.Lib.Hide
import Derived.Deep.QuietTactic
import Derived.BigQuiet
import Derived.Outline
import Derived.Lib.AppendZeros
import Derived.Laws.AppendOwnNone
import Derived.OwnWalk
import Derived.Test.YtbcjhiponbfbnaaRows
set_option linter.unusedSimpArgs false
set_option linter.unusedVariables false
set_option linter.unusedSectionVars false
namespace Go.Proofs.Ytbcjhiponbfbnaa
open Go.RowKit

/-- The call answers a bool that says p, and leaves the world alone. -/
def RB (w : World) (p : Prop) (e : Ending) (w' : World) : Prop := ∃ b : Bool, e = .returned (.bool b) ∧ w = w' ∧ Hid (b = true ↔ p)
/-- The call answers a bool that says p; new memory at most. -/
def RBn (w : World) (p : Prop) (e : Ending) (w' : World) : Prop := ∃ b : Bool, e = .returned (.bool b) ∧ Below w.heap.size w w' ∧ Hid (b = true ↔ p)
/-- The call answers an int of which p holds, and leaves the world alone. -/
def RI (w : World) (p : Int → Prop) (e : Ending) (w' : World) : Prop := ∃ n : Int, e = .returned (.int .i64 n) ∧ w = w' ∧ Hid (p n)
/-- The call answers an int of which p holds; new memory at most. -/
def RIn (w : World) (p : Int → Prop) (e : Ending) (w' : World) : Prop := ∃ n : Int, e = .returned (.int .i64 n) ∧ Below w.heap.size w w' ∧ Hid (p n)
/-- The call answers a string of which p holds; new memory at most. -/
def RSn (w : World) (p : ByteArray → Prop) (e : Ending) (w' : World) : Prop := ∃ s : ByteArray, e = .returned (.string s) ∧ Below w.heap.size w w' ∧ Hid (p s)
/-- The call answers a value of which p holds in the world behind; new memory at most. -/
def RVn (w : World) (p : Value → World → Prop) (e : Ending) (w' : World) : Prop := ∃ v : Value, e = .returned v ∧ Below w.heap.size w w' ∧ Hid (p v w')

theorem hbT {p : Prop} (h : Hid (true = true ↔ p)) : p := h.1 rfl
theorem hbF {p : Prop} (h : Hid (false = true ↔ p)) : ¬ p := fun hp => by cases h.2 hp
theorem RB.mk {w : World} {p : Prop} {b : Bool} (h : b = true ↔ p) : RB w p (.returned (.bool b)) w := ⟨b, rfl, rfl, h⟩
theorem RBn.mk {w w' : World} {p : Prop} {b : Bool} (hb : Below w.heap.size w w') (h : b = true ↔ p) : RBn w p (.returned (.bool b)) w' := ⟨b, rfl, hb, h⟩
theorem RI.mk {w : World} {p : Int → Prop} {n : Int} (h : p n) : RI w p (.returned (.int .i64 n)) w := ⟨n, rfl, rfl, h⟩
theorem RIn.mk {w w' : World} {p : Int → Prop} {n : Int} (hb : Below w.heap.size w w') (h : p n) : RIn w p (.returned (.int .i64 n)) w' := ⟨n, rfl, hb, h⟩
theorem RSn.mk {w w' : World} {p : ByteArray → Prop} {n : ByteArray} (hb : Below w.heap.size w w') (h : p n) : RSn w p (.returned (.string n)) w' := ⟨n, rfl, hb, h⟩
theorem RVn.mk {w w' : World} {p : Value → World → Prop} {v : Value} (hb : Below w.heap.size w w') (h : p v w') : RVn w p (.returned v) w' := ⟨v, rfl, hb, h⟩
theorem RB.imp {w : World} {p q : Prop} {e : Ending} {w' : World} (h : RB w p e w') (k : p ↔ q) : RB w q e w' := let ⟨b, h1, h2, h3⟩ := h; ⟨b, h1, h2, h3.out.trans k⟩
theorem belDrewN {B : Nat} {a w : World} (h : Below B a w) (q : Nat) : Below B a (w.drewN q) := ⟨h.os, h.tape, h.output, h.size, h.block⟩
theorem belReflN (B : Nat) (w : World) (q : Nat) : Below B w (w.drewN q) := belDrewN (Below.refl B w) q
theorem RB.n {w : World} {p : Prop} {e : Ending} {w' : World} (h : RB w p e w') : RBn w p e w' := let ⟨b, h1, h2, h3⟩ := h; ⟨b, h1, h2 ▸ Below.refl _ _, h3⟩

theorem boolEq {b c : Bool} {p : Prop} (h : Hid (b = true ↔ p)) (k : Hid (c = true ↔ p)) : b = c := by
  have h1 := h.out; have h2 := k.out
  cases b <;> cases c <;> first | rfl | (exfalso; simp at h1 h2; contradiction)
theorem bneSelf (b : Bool) : (b != b) = false := by cases b <;> rfl
/-- The law answered true, and made new memory at most. -/
def Yes (w : World) (e : Ending) (w' : World) : Prop := e = .returned (.bool true) ∧ Below w.heap.size w w'
theorem strNil {s : ByteArray} (h : s.size = 0) : s.toList.isEmpty = true := by
  rw [ByteArray.toList_eq, List.isEmpty_iff]; exact List.eq_nil_of_length_eq_zero (by simpa using h)
theorem strCons {s : ByteArray} (h : 0 < s.size) : s.toList.isEmpty = false := by
  rw [ByteArray.toList_eq]
  cases hd : s.data.toList with
  | nil => have : s.data.toList.length = s.size := by simp
           rw [hd] at this; simp at this; omega
  | cons a t => rfl
theorem bcell {W w1 : World} (hb : Below W.heap.size W w1) : (∀ b o, b < W.heap.size → w1.cell? ⟨b, o, none⟩ = W.cell? ⟨b, o, none⟩) ∧ (∀ b o, b < W.heap.size → w1.frozen? ⟨b, o, none⟩ = W.frozen? ⟨b, o, none⟩) :=
  ⟨fun b o h => hb.cell (p := ⟨b, o, none⟩) h, fun b o h => hb.frozen (p := ⟨b, o, none⟩) h⟩
theorem heap_set {w : World} {b : Nat} {cs : Array Value} {t : TypeId} {fz : Nat × Nat} (h : w.heap[b]? = some (.cells cs t fz)) (o : Nat) (v : Value) :
    (w.setCell ⟨b, o, none⟩ v).heap[b]? = some (.cells (cs.setIfInBounds o v) t fz) := by
  simp only [World.setCell, Array.getElem?_modify, if_true, h, Option.map_some]
  rfl
theorem blkFz {w : World} {b : Nat} {cs : Array Value} {t : TypeId} (h : w.heap[b]? = some (.cells cs t (0, 0))) (o : Nat) : w.frozen? ⟨b, o, none⟩ = false := by simp [World.frozen?, h]
theorem blk2 {w : World} {b : Nat} {x y : Value} {t : TypeId} (h : w.heap[b]? = some (.cells #[x, y] t (0, 0))) :
    w.cell? ⟨b, 0, none⟩ = some x ∧ w.cell? ⟨b, 1, none⟩ = some y ∧ w.frozen? ⟨b, 0, none⟩ = false ∧ w.frozen? ⟨b, 1, none⟩ = false :=
  ⟨by rw [cell_of_row w b 0 _ _ _ h]; rfl, by rw [cell_of_row w b 1 _ _ _ h]; rfl, blkFz h 0, blkFz h 1⟩
theorem blkNew (w : World) (o : Obj) {b : Nat} (hb : b = w.heap.size) : (w.alloc o).heap[b]? = some o := by subst hb; exact heap_alloc_new w o
theorem blkOld {w : World} {o : Obj} {b : Nat} {ob : Obj} (h : w.heap[b]? = some ob) : (w.alloc o).heap[b]? = some ob := by
  rw [heap_alloc_old w o (Array.getElem?_eq_some_iff.1 h).1]; exact h
theorem blkBel {w w' : World} {b : Nat} {ob : Obj} (hb : Below w.heap.size w w') (h : w.heap[b]? = some ob) : w'.heap[b]? = some ob := by
  rw [hb.block b (Array.getElem?_eq_some_iff.1 h).1]; exact h
theorem blkSet {w : World} {b c o : Nat} {v : Value} {ob : Obj} (h : w.heap[b]? = some ob) (hne : b ≠ c) : (w.setCell ⟨c, o, none⟩ v).heap[b]? = some ob := by
  rw [Below.heap_setCell _ _ _ _ hne]; exact h
/-- A byte is a letter. -/
def letB (c : UInt8) : Prop := 97 ≤ (c.toNat : Int) ∧ (c.toNat : Int) ≤ 99
/-- A text has letters alone. -/
def letS (s : ByteArray) : Prop := ∀ j (h : j < s.size), letB s[j]
end Go.Proofs.Ytbcjhiponbfbnaa
namespace Go.Proofs.Ytbcjhiponbfbnaa
open Go.RowKit
set_option maxRecDepth 100000

theorem within_c (x low high : Int) (w : World) :
    Calls Try.prog 51 #[.int .i64 x, .int .i64 low, .int .i64 high] w (RB w (low ≤ x ∧ x ≤ high)) := by
  by_cases h1 : low ≤ x
  · by_cases h2 : x ≤ high
    · go_enter Try.func51, Try.ntmps51
      go_wp2
      go_ret
      exact RB.mk (by simp [h1, h2])
    · go_enter Try.func51, Try.ntmps51
      go_wp2
      go_ret
      exact RB.mk (by simp [h2])
  · go_enter Try.func51, Try.ntmps51
    go_wp2
    go_ret
    exact RB.mk (by simp; omega)
theorem l1In_c (x low high : Int) (w : World) :
    Calls Try.prog 55 #[.int .i64 x, .int .i64 low, .int .i64 high] w (RB w (low ≤ x ∧ x ≤ high)) := by
  by_cases h1 : low ≤ x
  · by_cases h2 : x ≤ high
    · go_enter Try.func55, Try.ntmps55
      go_wp2
      go_ret
      exact RB.mk (by simp [h1, h2])
    · go_enter Try.func55, Try.ntmps55
      go_wp2
      go_ret
      exact RB.mk (by simp [h2])
  · go_enter Try.func55, Try.ntmps55
    go_wp2
    go_ret
    exact RB.mk (by simp; omega)
set_option maxHeartbeats 400000 in
theorem areLetters_c (s : ByteArray) (m : Int) (w : World) (hs : s.size ≤ maxLen) :
    Calls Try.prog 85 #[.string s, .int .i64 m] w (RB w (letS s ∧ (s.size : Int) ≤ m)) := by
  unfold maxLen at hs
  go_enter Try.func85, Try.ntmps85
  go_wp2
  go_loop [8] (fun i => ∃ k : Nat, k ≤ s.size ∧ i = .int .i64 k ∧ ∀ j (h : j < s.size), j < k → letB s[j]) (fun i => s.size - (intOf i).toNat)
  case atStart => exact ⟨0, by omega, rfl, by simp⟩
  case round =>
    obtain ⟨k, hk, rfl, hr⟩ := hrel
    have Hr := Lib.hid hr; clear hr
    by_cases hlt : k < s.size
    · have hw : wrap64 (s[k].toNat : Int) = s[k].toNat := IntWalk.wrap64_in _ (by have := s[k].toNat_lt; omega)
      go_wp2_with fail
      refine (within_c _ _ _ _).mono ?_
      rintro e w' ⟨b, rfl, rfl, hb⟩
      cases b
      · have hp := hbF hb; clear hb
        go_wp2
        go_ret
        exact RB.mk ⟨nofun, fun h => (hp (h.1 k hlt)).elim⟩
      · have hp := Lib.hid (hbT hb); clear hb
        go_wp2
        go_round
        case rel => exact ⟨k+1, by omega, by go_num, fun j h hj => by
          rcases Nat.lt_succ_iff_lt_or_eq.1 hj with h1 | rfl
          · exact Hr.out j h h1
          · exact hp.out⟩
        case measure => simp [intOf]; omega
    · go_wp2
      go_ret
      exact RB.mk (by simp; exact fun _ => fun j h => Hr.out j h (by omega))
theorem WordValid_c (s : ByteArray) (w : World) (hs : s.size ≤ maxLen) :
    Calls Try.prog 41 #[.string s] w (RB w (letS s ∧ s.size ≤ 8)) := by
  go_enter Try.func41, Try.ntmps41
  go_wp2_with fail
  refine (areLetters_c _ _ _ hs).mono ?_
  rintro e w' ⟨b, rfl, rfl, hb⟩
  go_wp2
  go_ret
  exact ⟨b, rfl, rfl, hb.out.trans (and_congr_right fun _ => by omega)⟩
set_option maxHeartbeats 400000 in
theorem sWordValid_c (s : ByteArray) (w : World) (hs : s.size ≤ maxLen) :
    Calls Try.prog 21 #[.string s] w (RB w (letS s ∧ s.size ≤ 8)) := by
  unfold maxLen at hs
  go_enter Try.func21, Try.ntmps21
  go_wp2
  go_loop [3] (fun i => ∃ k : Nat, k ≤ s.size ∧ i = .int .i64 k ∧ ∀ j (h : j < s.size), j < k → letB s[j]) (fun i => s.size - (intOf i).toNat)
  case atStart => exact ⟨0, by omega, rfl, by simp⟩
  case round =>
    obtain ⟨k, hk, rfl, hr⟩ := hrel
    have Hr := Lib.hid hr; clear hr
    by_cases hlt : k < s.size
    · have hw : wrap64 (s[k].toNat : Int) = s[k].toNat := IntWalk.wrap64_in _ (by have := s[k].toNat_lt; omega)
      go_wp2_with fail
      refine (l1In_c _ _ _ _).mono ?_
      rintro e w' ⟨b, rfl, rfl, hb⟩
      cases b
      · have hp := hbF hb; clear hb
        go_wp2
        go_ret
        exact RB.mk ⟨nofun, fun h => (hp (h.1 k hlt)).elim⟩
      · have hp := Lib.hid (hbT hb); clear hb
        go_wp2
        go_round
        case rel => exact ⟨k+1, by omega, by go_num, fun j h hj => by
          rcases Nat.lt_succ_iff_lt_or_eq.1 hj with h1 | rfl
          · exact Hr.out j h h1
          · exact hp.out⟩
        case measure => simp [intOf]; omega
    · go_wp2
      go_ret
      exact RB.mk (by
        have hl : letS s := fun j h => Hr.out j h (by omega)
        simp only [hl, decide_eq_true_eq, true_and]; omega)
theorem letter_c (s : ByteArray) (k : Nat) (w : World) (hs : s.size ≤ maxLen) (hk : k < s.size) (hl : letB s[k]) :
    Calls Try.prog 44 #[.string s, .int .i64 k] w (RI w fun n => n = (s[k].toNat : Int) - 97 ∧ 0 ≤ n ∧ n ≤ 2) := by
  unfold maxLen at hs
  unfold letB at hl
  have h1 : (97 : Int) ≤ (s[k].toNat : Int) := hl.1
  have h2 : (s[k].toNat : Int) ≤ 99 := hl.2
  go_enter Try.func44, Try.ntmps44
  go_wp2
  go_ret
  exact RI.mk ⟨rfl, by omega, by omega⟩
def p3 : Nat → Int
  | 0 => 1
  | k + 1 => 3 * p3 k
theorem p3_bd (k : Nat) (h : k ≤ 8) : 1 ≤ p3 k ∧ p3 k ≤ 6561 := by
  have : k = 0 ∨ k = 1 ∨ k = 2 ∨ k = 3 ∨ k = 4 ∨ k = 5 ∨ k = 6 ∨ k = 7 ∨ k = 8 := by omega
  rcases this with rfl | rfl | rfl | rfl | rfl | rfl | rfl | rfl | rfl <;> decide
theorem wordsOf_c (n : Nat) (w : World) (hn : n ≤ 8) :
    Calls Try.prog 79 #[.int .i64 n] w (RI w fun m => m = p3 n ∧ 1 ≤ m ∧ m ≤ 6561) := by
  go_enter Try.func79, Try.ntmps79
  go_wp2
  go_loop [3, 5] (fun x i => ∃ (k : Nat) (m : Int), k ≤ n ∧ i = .int .i64 k ∧ x = .int .i64 m ∧ Hid (m = p3 k)) (fun _ i => n - (intOf i).toNat)
  case atStart => exact ⟨0, 1, by omega, rfl, rfl, rfl⟩
  case round =>
    obtain ⟨k, m, hk, rfl, rfl, Hm⟩ := hrel
    have hb := p3_bd k (by omega)
    rw [← Hm.out] at hb
    obtain ⟨hb1, hb2⟩ := hb
    by_cases hlt : k < n
    · go_wp2
      go_round
      case rel => exact ⟨k + 1, m * 3, by omega, by go_num, rfl, by rw [Hm.out]; exact Int.mul_comm _ _⟩
      case measure => simp [intOf]; omega
    · obtain rfl : k = n := by omega
      go_wp2
      go_ret
      exact RI.mk ⟨Hm.out, hb1, hb2⟩
def shr : Nat → Int
  | 0 => 0
  | k + 1 => shr k + p3 k
theorem shr_bd (k : Nat) (h : k ≤ 9) : 0 ≤ shr k ∧ shr k ≤ 9841 := by
  have : k = 0 ∨ k = 1 ∨ k = 2 ∨ k = 3 ∨ k = 4 ∨ k = 5 ∨ k = 6 ∨ k = 7 ∨ k = 8 ∨ k = 9 := by omega
  rcases this with rfl | rfl | rfl | rfl | rfl | rfl | rfl | rfl | rfl | rfl <;> decide
theorem shorter_c (n : Nat) (w : World) (hn : n ≤ 9) :
    Calls Try.prog 90 #[.int .i64 n] w (RI w fun m => m = shr n ∧ 0 ≤ m ∧ m ≤ 9841) := by
  go_enter Try.func90, Try.ntmps90
  go_wp2
  go_loop [3, 6] (fun x i => ∃ (k : Nat) (m : Int), k ≤ n ∧ i = .int .i64 k ∧ x = .int .i64 m ∧ Hid (m = shr k)) (fun _ i => n - (intOf i).toNat)
  case atStart => exact ⟨0, 0, by omega, rfl, rfl, rfl⟩
  case round =>
    obtain ⟨k, m, hk, rfl, rfl, Hm⟩ := hrel
    have hb := shr_bd k (by omega)
    rw [← Hm.out] at hb
    obtain ⟨hb1, hb2⟩ := hb
    by_cases hlt : k < n
    · go_wp2_with fail
      refine (wordsOf_c k _ (by omega)).mono ?_
      rintro e w' ⟨q, rfl, rfl, hq⟩
      have hq1 := hq.out.2.1
      have hq2 := hq.out.2.2
      go_wp2
      go_round
      case rel => exact ⟨k + 1, m + q, by omega, by go_num, rfl, by rw [Hm.out, hq.out.1]; rfl⟩
      case measure => simp [intOf]; omega
    · obtain rfl : k = n := by omega
      go_wp2
      go_ret
      exact RI.mk ⟨Hm.out, hb1, hb2⟩
def wordNum (l : List UInt8) : Int := l.foldl (fun n c => 3 * n + ((c.toNat : Int) - 97)) 0
theorem take_snoc (s : ByteArray) (k : Nat) (h : k < s.size) : s.data.toList.take (k + 1) = s.data.toList.take k ++ [s[k]] := by
  rw [List.take_succ_eq_append_getElem (by simpa using h)]; rfl
theorem wordNum_bd (l : List UInt8) (h : ∀ c ∈ l, letB c) : 0 ≤ wordNum l ∧ wordNum l < p3 l.length := by
  have key : ∀ l : List UInt8, (∀ c ∈ l, letB c) → ∀ n : Int, ∀ j : Nat, 0 ≤ n → n < p3 j → 0 ≤ l.foldl (fun n c => 3 * n + ((c.toNat : Int) - 97)) n ∧ l.foldl (fun n c => 3 * n + ((c.toNat : Int) - 97)) n < p3 (j + l.length) := by
    intro l
    induction l with
    | nil => intro _ n j h0 h1; exact ⟨h0, h1⟩
    | cons c t ih =>
      intro h n j h0 h1
      have hc := h c (by simp)
      unfold letB at hc
      have := ih (fun c hc => h c (by simp [hc])) (3 * n + ((c.toNat : Int) - 97)) (j + 1) (by omega) (by show _ < 3 * p3 j; omega)
      simpa [List.foldl_cons, Nat.add_assoc, Nat.add_comm 1] using this
  have := key l h 0 0 (by omega) (by decide)
  simpa [wordNum] using this
theorem letS_mem {s : ByteArray} (h : letS s) (k : Nat) : ∀ c ∈ s.data.toList.take k, letB c := by
  intro c hc
  obtain ⟨i, hi, rfl⟩ := List.getElem_of_mem hc
  have hi' : i < s.size := by simp at hi; omega
  have := h i hi'
  rw [List.getElem_take]
  exact this
set_option maxHeartbeats 400000 in
theorem WordRank_c (s : ByteArray) (w : World) (hv : letS s ∧ s.size ≤ 8) :
    Calls Try.prog 47 #[.string s] w (RI w fun m => m = shr s.size + wordNum s.data.toList ∧ 0 ≤ m) := by
  have hs : s.size ≤ maxLen := by unfold maxLen; omega
  have h8 := hv.2
  have hl := Lib.hid hv.1
  have HV := Lib.hid hv; clear hv
  go_enter Try.func47, Try.ntmps47
  go_wp2_with fail
  refine (WordValid_c _ _ hs).mono ?_
  rintro e w' ⟨b, rfl, rfl, hb⟩
  cases b
  · exact (hbF hb HV.out).elim
  clear hb
  go_wp2_with fail
  go_loop [3, 10] (fun x i => ∃ (k : Nat) (m : Int), k ≤ s.size ∧ i = .int .i64 k ∧ x = .int .i64 m ∧ Hid (m = wordNum (s.data.toList.take k))) (fun _ i => s.size - (intOf i).toNat)
  case atStart => exact ⟨0, 0, by omega, rfl, rfl, rfl⟩
  case round =>
    obtain ⟨k, m, hk, rfl, rfl, Hm⟩ := hrel
    have hb := wordNum_bd (s.data.toList.take k) (letS_mem hl.out k)
    have hb3 := (p3_bd (s.data.toList.take k).length (by simp; omega)).2
    rw [← Hm.out] at hb
    have hb1 : 0 ≤ m := hb.1
    have hb2 : m ≤ 6561 := by omega
    clear hb hb3
    by_cases hlt : k < s.size
    · go_wp2_with fail
      refine (letter_c s k _ hs hlt (hl.out k hlt)).mono ?_
      rintro e w' ⟨q, rfl, rfl, hq⟩
      have hq1 := hq.out.2.1
      have hq2 := hq.out.2.2
      go_wp2
      go_round
      case rel => exact ⟨k + 1, _, by omega, by go_num, rfl, by rw [take_snoc s k hlt, hq.out.1, Hm.out]; simp [wordNum, Hid]⟩
      case measure => simp [intOf]; omega
    · obtain rfl : k = s.size := by omega
      go_wp2_with fail
      refine (shorter_c s.size _ (by omega)).mono ?_
      rintro e w' ⟨q, rfl, rfl, hq⟩
      have hq1 := hq.out.2.1
      have hq2 := hq.out.2.2
      go_wp2
      go_ret
      exact RI.mk ⟨by rw [hq.out.1, Hm.out]; congr 2; rw [List.take_of_length_le (by simp)], by omega⟩
theorem alive_c (w : World) : Calls Try.prog 12 #[] w (RB w True) := by
  go_enter Try.func12, Try.ntmps12
  go_wp2_with fail
  refine (WordRank_c ⟨#[97, 98]⟩ w ⟨?_, by decide⟩).mono ?_
  · intro j hj
    have : j = 0 ∨ j = 1 := by change j < 2 at hj; omega
    rcases this with rfl | rfl
    · show letB 97
      unfold letB; decide
    · show letB 98
      unfold letB; decide
  rintro e w' ⟨q, rfl, rfl, hq⟩
  have h5 : q = 5 := hq.out.1
  clear hq
  subst h5
  go_wp2
  go_ret
  exact RB.mk (by decide)
end Go.Proofs.Ytbcjhiponbfbnaa
namespace Go.Proofs.Ytbcjhiponbfbnaa

section explore
variable {S : Type} [DecidableEq S] (nx : S → Nat → S)
/-- A state is met. -/
def vis (M : List S) (t : S) : List S := if t ∈ M then M else M ++ [t]
/-- The next states of s are met, in order. -/
def vis3 (M : List S) (s : S) : List S := vis (vis (vis M (nx s 0)) (nx s 1)) (nx s 2)
/-- The states that are met before round k. -/
def rnd (s0 : S) : Nat → List S
  | 0 => [s0]
  | k + 1 => match (rnd s0 k)[k]? with
    | some s => vis3 nx (rnd s0 k) s
    | none => rnd s0 k
/-- The automaton of the states M. -/
def autD (en : S → Bool) (M : List S) : List (List Int) × List Bool :=
  (M.map fun s => [((M.idxOf (nx s 0) : Nat) : Int), ((M.idxOf (nx s 1) : Nat) : Int), ((M.idxOf (nx s 2) : Nat) : Int)], M.map en)

theorem mem_vis {M : List S} {t u : S} : u ∈ vis M t ↔ u ∈ M ∨ u = t := by
  unfold vis; split
  · constructor
    · exact .inl
    · rintro (h | rfl)
      · exact h
      · assumption
  · simp
theorem vis_pre (M : List S) (t : S) : M <+: vis M t := by
  unfold vis; split
  · exact List.prefix_rfl
  · exact List.prefix_append _ _
theorem vis_nodup {M : List S} {t : S} (h : M.Nodup) : (vis M t).Nodup := by
  unfold vis; split
  · exact h
  · rename_i hn
    rw [List.nodup_append]
    exact ⟨h, by simp, by rintro a ha b hb rfl; simp at hb; subst hb; exact hn ha⟩
theorem vis3_pre (M : List S) (s : S) : M <+: vis3 nx M s := (vis_pre _ _).trans ((vis_pre _ _).trans (vis_pre _ _))
theorem vis3_nodup {M : List S} {s : S} (h : M.Nodup) : (vis3 nx M s).Nodup := vis_nodup (vis_nodup (vis_nodup h))
theorem mem_vis3 {M : List S} {s u : S} : u ∈ vis3 nx M s ↔ u ∈ M ∨ u = nx s 0 ∨ u = nx s 1 ∨ u = nx s 2 := by
  unfold vis3; simp only [mem_vis]; constructor
  · rintro (((h | h) | h) | h) <;> simp [h]
  · rintro (h | h | h | h) <;> simp [h]
theorem rnd_succ_some {s0 : S} {k : Nat} (h : k < (rnd nx s0 k).length) : rnd nx s0 (k + 1) = vis3 nx (rnd nx s0 k) ((rnd nx s0 k)[k]) := by
  show (match (rnd nx s0 k)[k]? with | some s => vis3 nx (rnd nx s0 k) s | none => rnd nx s0 k) = _
  rw [List.getElem?_eq_getElem h]
theorem rnd_succ_none {s0 : S} {k : Nat} (h : (rnd nx s0 k).length ≤ k) : rnd nx s0 (k + 1) = rnd nx s0 k := by
  show (match (rnd nx s0 k)[k]? with | some s => vis3 nx (rnd nx s0 k) s | none => rnd nx s0 k) = _
  rw [List.getElem?_eq_none h]
theorem rnd_pre_succ (s0 : S) (k : Nat) : rnd nx s0 k <+: rnd nx s0 (k + 1) := by
  rcases Nat.lt_or_ge k (rnd nx s0 k).length with h | h
  · rw [rnd_succ_some nx h]; exact vis3_pre nx _ _
  · rw [rnd_succ_none nx h]; exact List.prefix_rfl
theorem rnd_pre (s0 : S) {j k : Nat} (h : j ≤ k) : rnd nx s0 j <+: rnd nx s0 k := by
  induction k with
  | zero => obtain rfl : j = 0 := by omega
            exact List.prefix_rfl
  | succ k ih =>
    rcases Nat.lt_or_ge j (k + 1) with h1 | h1
    · exact (ih (by omega)).trans (rnd_pre_succ nx s0 k)
    · obtain rfl : j = k + 1 := by omega
      exact List.prefix_rfl
theorem rnd_done {s0 : S} {k j : Nat} (h : (rnd nx s0 k).length ≤ k) (hj : k ≤ j) : rnd nx s0 j = rnd nx s0 k := by
  induction j with
  | zero => obtain rfl : k = 0 := by omega
            rfl
  | succ j ih =>
    rcases Nat.lt_or_ge k (j + 1) with h1 | h1
    · have := ih (by omega)
      rw [rnd_succ_none nx (by rw [this]; omega), this]
    · obtain rfl : k = j + 1 := by omega
      rfl
theorem rnd_nodup (s0 : S) (k : Nat) : (rnd nx s0 k).Nodup := by
  induction k with
  | zero => simp [rnd]
  | succ k ih =>
    rcases Nat.lt_or_ge k (rnd nx s0 k).length with h | h
    · rw [rnd_succ_some nx h]; exact vis3_nodup nx ih
    · rw [rnd_succ_none nx h]; exact ih
theorem rnd_pos (s0 : S) (k : Nat) : 0 < (rnd nx s0 k).length := by
  have := (rnd_pre nx s0 (Nat.zero_le k)).length_le
  have h1 : (rnd nx s0 0).length = 1 := rfl
  omega
theorem rnd_zero (s0 : S) (k : Nat) : (rnd nx s0 k)[0]? = some s0 := by
  have h := rnd_pre nx s0 (Nat.zero_le k)
  obtain ⟨t, ht⟩ := h
  rw [← ht]
  simp [rnd]
theorem rnd_all {P : S → Prop} {s0 : S} (h0 : P s0) (hs : ∀ s, P s → P (nx s 0) ∧ P (nx s 1) ∧ P (nx s 2)) (k : Nat) : ∀ s ∈ rnd nx s0 k, P s := by
  induction k with
  | zero => intro s hs; simp [rnd] at hs; subst hs; exact h0
  | succ k ih =>
    rcases Nat.lt_or_ge k (rnd nx s0 k).length with h | h
    · rw [rnd_succ_some nx h]
      intro s hm
      have h1 := hs _ (ih _ (List.getElem_mem h))
      rcases (mem_vis3 nx).1 hm with h2 | rfl | rfl | rfl
      · exact ih s h2
      · exact h1.1
      · exact h1.2.1
      · exact h1.2.2
    · rw [rnd_succ_none nx h]; exact ih
/-- What round j has looked at is met. -/
theorem rnd_next {s0 : S} {j k : Nat} (hjk : j < k) (hj : j < (rnd nx s0 k).length) : nx (rnd nx s0 k)[j] 0 ∈ rnd nx s0 k ∧ nx (rnd nx s0 k)[j] 1 ∈ rnd nx s0 k ∧ nx (rnd nx s0 k)[j] 2 ∈ rnd nx s0 k := by
  have hp := rnd_pre nx s0 (show j + 1 ≤ k by omega)
  have hp0 := rnd_pre nx s0 (show j ≤ k by omega)
  rcases Nat.lt_or_ge j (rnd nx s0 j).length with h | h
  · have e : (rnd nx s0 k)[j] = (rnd nx s0 j)[j] := by
      obtain ⟨t, ht⟩ := hp0
      simp only [← ht]
      rw [List.getElem_append_left h]
    rw [e]
    rw [rnd_succ_some nx h] at hp
    exact ⟨hp.subset ((mem_vis3 nx).2 (by simp)), hp.subset ((mem_vis3 nx).2 (by simp)), hp.subset ((mem_vis3 nx).2 (by simp))⟩
  · have := rnd_done nx h (show j ≤ k by omega)
    rw [this] at hj
    omega
/-- At its end the exploring is closed. -/
theorem rnd_closed {s0 : S} {k : Nat} (h : (rnd nx s0 k).length ≤ k) : ∀ s ∈ rnd nx s0 k, nx s 0 ∈ rnd nx s0 k ∧ nx s 1 ∈ rnd nx s0 k ∧ nx s 2 ∈ rnd nx s0 k := by
  intro s hs
  obtain ⟨j, hj, rfl⟩ := List.getElem_of_mem hs
  exact rnd_next nx (by omega) hj
end explore

theorem nodup_le {n : Nat} : ∀ {l : List Nat}, l.Nodup → (∀ x ∈ l, x < n) → l.length ≤ n := by
  induction n with
  | zero => intro l _ h; cases l with
    | nil => simp
    | cons a t => exact absurd (h a (by simp)) (Nat.not_lt_zero _)
  | succ n ih =>
    intro l hn h
    by_cases hm : n ∈ l
    · have h1 := ih (hn.erase n) (fun x hx => by
        have := (hn.mem_erase_iff).1 hx
        have := h x this.2
        have : x ≠ n := by simp_all
        omega)
      rw [List.length_erase_of_mem hm] at h1
      omega
    · have := ih hn (fun x hx => by
        have := h x hx
        have : x ≠ n := by rintro rfl; exact hm hx
        omega)
      omega

section natural
variable {S T : Type} [DecidableEq S] [DecidableEq T] {nx : S → Nat → S} {ny : T → Nat → T} {h : S → T} {P : S → Prop}
theorem vis_map (inj : ∀ s t, P s → P t → h s = h t → s = t) {M : List S} {t : S} (hM : ∀ s ∈ M, P s) (ht : P t) : (vis M t).map h = vis (M.map h) (h t) := by
  unfold vis
  have : h t ∈ M.map h ↔ t ∈ M := by
    rw [List.mem_map]
    exact ⟨fun ⟨a, ha, e⟩ => inj a t (hM a ha) ht e ▸ ha, fun ha => ⟨t, ha, rfl⟩⟩
  by_cases hm : t ∈ M
  · rw [if_pos hm, if_pos (this.2 hm)]
  · rw [if_neg hm, if_neg (fun hh => hm (this.1 hh))]; simp
theorem rnd_map (inj : ∀ s t, P s → P t → h s = h t → s = t) (hs : ∀ s, P s → P (nx s 0) ∧ P (nx s 1) ∧ P (nx s 2))
    (hom : ∀ s, P s → h (nx s 0) = ny (h s) 0 ∧ h (nx s 1) = ny (h s) 1 ∧ h (nx s 2) = ny (h s) 2) {s0 : S} (h0 : P s0) (k : Nat) : (rnd nx s0 k).map h = rnd ny (h s0) k := by
  induction k with
  | zero => rfl
  | succ k ih =>
    have hall := rnd_all nx h0 hs k
    have hlen : (rnd ny (h s0) k).length = (rnd nx s0 k).length := by rw [← ih, List.length_map]
    rcases Nat.lt_or_ge k (rnd nx s0 k).length with hk | hk
    · rw [rnd_succ_some nx hk, rnd_succ_some ny (by omega)]
      have e : (rnd ny (h s0) k)[k]'(by omega) = h ((rnd nx s0 k)[k]) := by
        simp only [← ih]; rw [List.getElem_map]
      rw [e]
      have hp := hall _ (List.getElem_mem hk)
      obtain ⟨p0, p1, p2⟩ := hs _ hp
      obtain ⟨q0, q1, q2⟩ := hom _ hp
      have m1 : ∀ s ∈ vis (rnd nx s0 k) (nx (rnd nx s0 k)[k] 0), P s := fun s hm => by
        rcases mem_vis.1 hm with hm | rfl
        · exact hall s hm
        · exact p0
      have m2 : ∀ s ∈ vis (vis (rnd nx s0 k) (nx (rnd nx s0 k)[k] 0)) (nx (rnd nx s0 k)[k] 1), P s := fun s hm => by
        rcases mem_vis.1 hm with hm | rfl
        · exact m1 s hm
        · exact p1
      unfold vis3
      rw [vis_map inj m2 p2, vis_map inj m1 p1, vis_map inj hall p0, ih, q0, q1, q2]
    · rw [rnd_succ_none nx hk, rnd_succ_none ny (by omega), ih]
theorem idxOf_map_inj (inj : ∀ s t, P s → P t → h s = h t → s = t) {M : List S} {t : S} (hM : ∀ s ∈ M, P s) (ht : P t) : (M.map h).idxOf (h t) = M.idxOf t := by
  induction M with
  | nil => rfl
  | cons a M ih =>
    rw [List.map_cons, List.idxOf_cons, List.idxOf_cons]
    have ha : (h a == h t) = (a == t) := by
      rw [Bool.eq_iff_iff]; simp only [beq_iff_eq]
      exact ⟨inj a t (hM a (by simp)) ht, fun e => by rw [e]⟩
    rw [ha, ih (fun s hs => hM s (by simp [hs]))]
theorem autD_map (inj : ∀ s t, P s → P t → h s = h t → s = t) (hs : ∀ s, P s → P (nx s 0) ∧ P (nx s 1) ∧ P (nx s 2))
    (hom : ∀ s, P s → h (nx s 0) = ny (h s) 0 ∧ h (nx s 1) = ny (h s) 1 ∧ h (nx s 2) = ny (h s) 2) {en : S → Bool} {em : T → Bool} (hen : ∀ s, P s → en s = em (h s)) {M : List S} (hM : ∀ s ∈ M, P s) :
    autD nx en M = autD ny em (M.map h) := by
  unfold autD
  rw [List.map_map, List.map_map]
  congr 1
  · apply List.map_congr_left
    intro s hm
    have hp := hM s hm
    obtain ⟨p0, p1, p2⟩ := hs _ hp
    obtain ⟨q0, q1, q2⟩ := hom _ hp
    simp only [Function.comp]
    rw [← q0, ← q1, ← q2, idxOf_map_inj inj hM p0, idxOf_map_inj inj hM p1, idxOf_map_inj inj hM p2]
  · apply List.map_congr_left
    intro s hm
    exact hen s (hM s hm)
end natural

/-- A language: which words of letters it has. -/
abbrev Lg := List (Fin 3) → Bool
/-- What may follow a letter. -/
def dv (L : Lg) (c : Nat) : Lg := fun w => L (Fin.ofNat 3 c :: w)
/-- The language from a state on. -/
def lg {S : Type} (nx : S → Nat → S) (en : S → Bool) (s : S) : Lg
  | [] => en s
  | c :: w => lg nx en (nx s c.val) w
theorem lg_dv {S : Type} (nx : S → Nat → S) (en : S → Bool) (s : S) {c : Nat} (hc : c < 3) : dv (lg nx en s) c = lg nx en (nx s c) := by
  funext w
  have : (Fin.ofNat 3 c).val = c := Nat.mod_eq_of_lt hc
  show lg nx en (nx s (Fin.ofNat 3 c).val) w = _
  rw [this]
theorem lg_nil {S : Type} (nx : S → Nat → S) (en : S → Bool) (s : S) : lg nx en s [] = en s := rfl
/-- Along a map that keeps moves and marks languages stay. -/
theorem lg_map {S T : Type} {nx : S → Nat → S} {ny : T → Nat → T} {en : S → Bool} {em : T → Bool} {h : S → T} {P : S → Prop} (hs : ∀ s, P s → ∀ c, c < 3 → P (nx s c))
    (hom : ∀ s, P s → ∀ c, c < 3 → h (nx s c) = ny (h s) c) (hen : ∀ s, P s → en s = em (h s)) : ∀ (w : List (Fin 3)) (s : S), P s → lg nx en s w = lg ny em (h s) w
  | [], s, hp => hen s hp
  | c :: w, s, hp => by
    show lg nx en (nx s c.val) w = lg ny em (ny (h s) c.val) w
    rw [← hom s hp c.val c.isLt]
    exact lg_map hs hom hen w _ (hs s hp _ c.isLt)

open Classical in
/-- The states of the smallest automaton of a language, as languages. -/
noncomputable def lgM (L : Lg) : List Lg := rnd dv L 2000
open Classical in
/-- The smallest automaton of a language. -/
noncomputable def canon (L : Lg) : List (List Int) × List Bool := autD dv (fun L => L []) (lgM L)

abbrev DfaD := List (List Int) × List Bool
/-- The next state. -/
def dn (D : DfaD) (s c : Nat) : Nat := ((D.1.getD s []).getD c 0).toNat
/-- The mark. -/
def de (D : DfaD) (s : Nat) : Bool := D.2.getD s false
/-- The automaton is valid. -/
def okD (D : DfaD) : Prop := (1 ≤ D.1.length ∧ D.1.length ≤ 40) ∧ D.2.length = D.1.length ∧ ∀ r ∈ D.1, r.length = 3 ∧ ∀ x ∈ r, 0 ≤ x ∧ x ≤ (D.1.length : Int) - 1
/-- Its language. -/
def lgD (D : DfaD) : Lg := lg (dn D) (de D) 0
theorem dn_cell {D : DfaD} (h : okD D) {s c : Nat} (hs : s < D.1.length) (hc : c < 3) : (D.1[s]).length = 3 ∧ (D.1[s])[c]'(by rw [(h.2.2 _ (List.getElem_mem hs)).1]; exact hc) = (dn D s c : Int) ∧ dn D s c < D.1.length := by
  have h1 := h.2.2 _ (List.getElem_mem hs)
  have h2 := h1.2 _ (List.getElem_mem (show c < (D.1[s]).length by rw [h1.1]; exact hc))
  have e : dn D s c = ((D.1[s])[c]'(by rw [h1.1]; exact hc)).toNat := by
    unfold dn
    simp only [List.getD_eq_getElem?_getD, List.getElem?_eq_getElem hs, Option.getD_some, List.getElem?_eq_getElem (show c < (D.1[s]).length by rw [h1.1]; exact hc)]
  exact ⟨h1.1, by rw [e]; omega, by rw [e]; omega⟩
theorem dn_lt {D : DfaD} (h : okD D) {s c : Nat} (hs : s < D.1.length) (hc : c < 3) : dn D s c < D.1.length := (dn_cell h hs hc).2.2
theorem dn_lt3 {D : DfaD} (h : okD D) (s : Nat) (hs : s < D.1.length) : dn D s 0 < D.1.length ∧ dn D s 1 < D.1.length ∧ dn D s 2 < D.1.length := ⟨dn_lt h hs (by omega), dn_lt h hs (by omega), dn_lt h hs (by omega)⟩
theorem de_cell {D : DfaD} (h : okD D) {s : Nat} (hs : s < D.1.length) : D.2[s]'(by rw [h.2.1]; exact hs) = de D s := by
  unfold de
  rw [List.getD_eq_getElem?_getD, List.getElem?_eq_getElem (by rw [h.2.1]; exact hs), Option.getD_some]

theorem rnd_len_le {n : Nat} {nx : Nat → Nat → Nat} {s0 : Nat} (h0 : s0 < n) (hs : ∀ s, s < n → nx s 0 < n ∧ nx s 1 < n ∧ nx s 2 < n) (k : Nat) : (rnd nx s0 k).length ≤ n :=
  nodup_le (rnd_nodup nx s0 k) (rnd_all nx (P := (· < n)) h0 hs k)

/-- A map of states to languages that keeps apart what is met: the automaton that is explored is the smallest one. -/
theorem canon_of {S : Type} [DecidableEq S] {nx : S → Nat → S} {en : S → Bool} {P : S → Prop} {s0 : S} (h0 : P s0) (hs : ∀ s, P s → P (nx s 0) ∧ P (nx s 1) ∧ P (nx s 2))
    (inj : ∀ s t, P s → P t → lg nx en s = lg nx en t → s = t) {k : Nat} (hk : (rnd nx s0 k).length ≤ k) (hk2 : k ≤ 2000) :
    autD nx en (rnd nx s0 k) = canon (lg nx en s0) ∧ (rnd nx s0 k).map (lg nx en) = lgM (lg nx en s0) := by
  classical
  have hom : ∀ s, P s → lg nx en (nx s 0) = dv (lg nx en s) 0 ∧ lg nx en (nx s 1) = dv (lg nx en s) 1 ∧ lg nx en (nx s 2) = dv (lg nx en s) 2 :=
    fun s _ => ⟨(lg_dv nx en s (by omega)).symm, (lg_dv nx en s (by omega)).symm, (lg_dv nx en s (by omega)).symm⟩
  have e1 : (rnd nx s0 k).map (lg nx en) = lgM (lg nx en s0) := by
    unfold lgM
    rw [← rnd_map inj hs hom h0 2000, rnd_done nx hk hk2]
  refine ⟨?_, e1⟩
  rw [autD_map (en := en) inj hs hom (em := fun L => L []) (fun s _ => rfl) (rnd_all nx h0 hs k), e1]
  rfl

theorem exists_least (p : Nat → Prop) : ∀ n, p n → ∃ m, m ≤ n ∧ p m ∧ ∀ j, j < m → ¬ p j := by
  intro n
  induction n using Nat.strongRecOn with
  | ind n ih =>
    intro hn
    by_cases h : ∃ j, j < n ∧ p j
    · obtain ⟨j, hj, hp⟩ := h
      obtain ⟨m, h1, h2⟩ := ih j hj hp
      exact ⟨m, by omega, h2⟩
    · exact ⟨n, Nat.le_refl n, hn, fun j hj hp => h ⟨j, hj, hp⟩⟩
open Classical in
/-- The least number of which p holds. -/
noncomputable def lst (p : Nat → Prop) : Nat := if h : ∃ n, p n ∧ ∀ j, j < n → ¬ p j then Classical.choose h else 0
theorem lst_spec {p : Nat → Prop} {n : Nat} (hn : p n) : lst p ≤ n ∧ p (lst p) ∧ ∀ j, j < lst p → ¬ p j := by
  obtain ⟨m, h1, h2⟩ := exists_least p n hn
  have h : ∃ n, p n ∧ ∀ j, j < n → ¬ p j := ⟨m, h2⟩
  have e : lst p = Classical.choose h := by unfold lst; rw [dif_pos h]
  have hs := Classical.choose_spec h
  rw [← e] at hs
  refine ⟨?_, hs⟩
  rcases Nat.lt_or_ge n (lst p) with h1 | h1
  · exact absurd hn (hs.2 n h1)
  · exact h1
theorem lst_eq {p : Nat → Prop} {m : Nat} (h : p m) (hl : ∀ j, j < m → ¬ p j) : lst p = m := by
  obtain ⟨h1, h2, h3⟩ := lst_spec h
  rcases Nat.lt_or_ge (lst p) m with h4 | h4
  · exact absurd h2 (hl _ h4)
  · omega

section minimal
variable (D : DfaD)
/-- States that no word of at most k letters tells apart. -/
def eqv (k s t : Nat) : Prop := ∀ w : List (Fin 3), w.length ≤ k → lg (dn D) (de D) s w = lg (dn D) (de D) t w
theorem eqv_refl (k s : Nat) : eqv D k s s := fun _ _ => rfl
theorem eqv_symm {k s t : Nat} (h : eqv D k s t) : eqv D k t s := fun w hw => (h w hw).symm
theorem eqv_trans {k s t u : Nat} (h : eqv D k s t) (h' : eqv D k t u) : eqv D k s u := fun w hw => (h w hw).trans (h' w hw)
theorem eqv_zero {s t : Nat} : eqv D 0 s t ↔ de D s = de D t := by
  constructor
  · intro h; exact h [] (Nat.le_refl _)
  · intro h w hw
    cases w with
    | nil => exact h
    | cons a w => simp at hw
theorem eqv_succ {k s t : Nat} : eqv D (k + 1) s t ↔ eqv D k s t ∧ eqv D k (dn D s 0) (dn D t 0) ∧ eqv D k (dn D s 1) (dn D t 1) ∧ eqv D k (dn D s 2) (dn D t 2) := by
  constructor
  · intro h
    exact ⟨fun w hw => h w (by omega), fun w hw => h (0 :: w) (by simpa using hw), fun w hw => h (1 :: w) (by simpa using hw), fun w hw => h (2 :: w) (by simpa using hw)⟩
  · rintro ⟨h, h0, h1, h2⟩ w hw
    cases w with
    | nil => exact h [] (Nat.zero_le _)
    | cons c w =>
      have hw' : w.length ≤ k := by simpa using hw
      show lg (dn D) (de D) (dn D s c.val) w = lg (dn D) (de D) (dn D t c.val) w
      have : c = 0 ∨ c = 1 ∨ c = 2 := by omega
      rcases this with rfl | rfl | rfl
      · exact h0 w hw'
      · exact h1 w hw'
      · exact h2 w hw'
/-- If nothing new is told apart, nothing ever is. -/
theorem eqv_stable (hD : okD D) {k : Nat} (h : ∀ s t, s < D.1.length → t < D.1.length → eqv D k s t → eqv D (k + 1) s t) {s t : Nat} (hs : s < D.1.length) (ht : t < D.1.length) (he : eqv D k s t) :
    lg (dn D) (de D) s = lg (dn D) (de D) t := by
  have key : ∀ (w : List (Fin 3)) s t, s < D.1.length → t < D.1.length → eqv D k s t → lg (dn D) (de D) s w = lg (dn D) (de D) t w := by
    intro w
    induction w with
    | nil => intro s t _ _ he; exact he [] (Nat.zero_le _)
    | cons c w ih =>
      intro s t hs ht he
      have h1 := (eqv_succ D).1 (h s t hs ht he)
      show lg (dn D) (de D) (dn D s c.val) w = lg (dn D) (de D) (dn D t c.val) w
      refine ih _ _ (dn_lt hD hs c.isLt) (dn_lt hD ht c.isLt) ?_
      have : c = 0 ∨ c = 1 ∨ c = 2 := by omega
      rcases this with rfl | rfl | rfl
      · exact h1.2.1
      · exact h1.2.2.1
      · exact h1.2.2.2
  funext w
  exact key w s t hs ht he
theorem eqv_of_lg {k s t : Nat} (h : lg (dn D) (de D) s = lg (dn D) (de D) t) : eqv D k s t := fun w _ => by rw [h]
/-- The first state of the class after k rounds. -/
noncomputable def fc (k s : Nat) : Nat := lst (fun t => eqv D k t s)
theorem fc_le (k s : Nat) : fc D k s ≤ s := (lst_spec (p := fun t => eqv D k t s) (eqv_refl D k s)).1
theorem fc_eqv (k s : Nat) : eqv D k (fc D k s) s := (lst_spec (p := fun t => eqv D k t s) (eqv_refl D k s)).2.1
theorem fc_least (k s : Nat) {j : Nat} (h : j < fc D k s) : ¬ eqv D k j s := (lst_spec (p := fun t => eqv D k t s) (eqv_refl D k s)).2.2 j h
theorem fc_eq {k s m : Nat} (h : eqv D k m s) (hl : ∀ j, j < m → ¬ eqv D k j s) : fc D k s = m := lst_eq h hl
theorem fc_same {k s t : Nat} : fc D k s = fc D k t ↔ eqv D k s t := by
  constructor
  · intro h
    exact eqv_trans D (eqv_symm D (fc_eqv D k s)) (h ▸ fc_eqv D k t)
  · intro h
    refine fc_eq D (eqv_trans D (fc_eqv D k t) (eqv_symm D h)) fun j hj he => ?_
    exact fc_least D k t hj (eqv_trans D he h)
theorem fc_idem (k s : Nat) : fc D k (fc D k s) = fc D k s := (fc_same D).2 (fc_eqv D k s)
/-- How many classes there are after k rounds. -/
noncomputable def nc (k : Nat) : Nat := (List.range D.1.length).countP (fun s => decide (fc D k s = s))
theorem nc_le (k : Nat) : nc D k ≤ D.1.length := by
  unfold nc
  have := List.countP_le_length (p := fun s => decide (fc D k s = s)) (l := List.range D.1.length)
  simpa using this
theorem countP_lt {α : Type} {p q : α → Bool} : ∀ {l : List α}, (∀ x ∈ l, p x = true → q x = true) → (∃ x ∈ l, q x = true ∧ p x = false) → l.countP p < l.countP q
  | [], _, ⟨x, hx, _⟩ => by simp at hx
  | a :: l, h, ⟨x, hx, h1, h2⟩ => by
    have hm : l.countP p ≤ l.countP q := List.countP_mono_left (fun x hx => h x (by simp [hx]))
    rw [List.countP_cons, List.countP_cons]
    rcases List.mem_cons.1 hx with rfl | hx
    · rw [h1, h2]; simp; omega
    · have := countP_lt (l := l) (fun x hx => h x (by simp [hx])) ⟨x, hx, h1, h2⟩
      have ha := h a (by simp)
      cases hp : p a <;> cases hq : q a <;> simp_all <;> omega
theorem fc_fix_mono {k s : Nat} (h : fc D k s = s) : fc D (k + 1) s = s := by
  refine fc_eq D (eqv_refl D _ s) fun j hj he => ?_
  exact fc_least D k s (by omega) ((eqv_succ D).1 he).1
/-- A round that changes something makes a class more. -/
theorem nc_lt {k : Nat} (h : ¬ ∀ s, s < D.1.length → fc D k s = fc D (k + 1) s) : nc D k < nc D (k + 1) := by
  unfold nc
  refine countP_lt (fun x _ hx => ?_) ?_
  · simp only [decide_eq_true_eq] at hx ⊢
    exact fc_fix_mono D hx
  · have : ∃ s, s < D.1.length ∧ fc D k s ≠ fc D (k + 1) s := by
      apply Classical.byContradiction
      intro hn
      exact h fun s hs => Classical.byContradiction fun he => hn ⟨s, hs, he⟩
    obtain ⟨s, hs, hne⟩ := this
    refine ⟨fc D (k + 1) s, List.mem_range.2 (Nat.lt_of_le_of_lt (fc_le D _ s) hs), ?_, ?_⟩
    · simp only [decide_eq_true_eq]; exact fc_idem D _ s
    · simp only [decide_eq_false_iff_not]
      intro he
      have h1 : fc D k (fc D (k + 1) s) = fc D k s := (fc_same D).2 ((eqv_succ D).1 (fc_eqv D (k + 1) s)).1
      rw [h1] at he
      exact hne he
theorem fc_stable_eqv {k : Nat} (h : ∀ s, s < D.1.length → fc D k s = fc D (k + 1) s) {s t : Nat} (hs : s < D.1.length) (ht : t < D.1.length) (he : eqv D k s t) : eqv D (k + 1) s t := by
  rw [← fc_same D] at he ⊢
  rw [← h s hs, ← h t ht]; exact he
/-- The first state with the same language. -/
noncomputable def cls (s : Nat) : Nat := lst (fun t => lg (dn D) (de D) t = lg (dn D) (de D) s)
theorem cls_le (s : Nat) : cls D s ≤ s := (lst_spec (p := fun t => lg (dn D) (de D) t = lg (dn D) (de D) s) rfl).1
theorem cls_lg (s : Nat) : lg (dn D) (de D) (cls D s) = lg (dn D) (de D) s := (lst_spec (p := fun t => lg (dn D) (de D) t = lg (dn D) (de D) s) rfl).2.1
theorem cls_same {s t : Nat} : cls D s = cls D t ↔ lg (dn D) (de D) s = lg (dn D) (de D) t := by
  constructor
  · intro h; rw [← cls_lg D s, h, cls_lg D t]
  · intro h; unfold cls; rw [h]
theorem cls_idem (s : Nat) : cls D (cls D s) = cls D s := (cls_same D).2 (cls_lg D s)
theorem cls_zero : cls D 0 = 0 := Nat.le_zero.1 (cls_le D 0)
theorem fc_cls (hD : okD D) {k : Nat} (h : ∀ s t, s < D.1.length → t < D.1.length → eqv D k s t → eqv D (k + 1) s t) {s : Nat} (hs : s < D.1.length) : fc D k s = cls D s := by
  have h1 := eqv_stable D hD h (Nat.lt_of_le_of_lt (fc_le D k s) hs) hs (fc_eqv D k s)
  refine (lst_eq (p := fun t => lg (dn D) (de D) t = lg (dn D) (de D) s) h1 fun j hj he => ?_).symm
  exact fc_least D k s hj (eqv_of_lg D he)

/-- Moves from class to class. -/
noncomputable def cn (s c : Nat) : Nat := cls D (dn D s c)
theorem cn_lt (hD : okD D) {s c : Nat} (hs : s < D.1.length) (hc : c < 3) : cn D s c < D.1.length := Nat.lt_of_le_of_lt (cls_le D _) (dn_lt hD hs hc)
theorem lg_cn (hD : okD D) {s : Nat} (hs : s < D.1.length) : lg (cn D) (de D) s = lg (dn D) (de D) s := by
  have key : ∀ (w : List (Fin 3)) s, s < D.1.length → lg (cn D) (de D) s w = lg (dn D) (de D) s w := by
    intro w
    induction w with
    | nil => intro s _; rfl
    | cons c w ih =>
      intro s hs
      show lg (cn D) (de D) (cn D s c.val) w = lg (dn D) (de D) (dn D s c.val) w
      rw [ih _ (cn_lt D hD hs c.isLt)]
      unfold cn
      rw [cls_lg]
  funext w
  exact key w s hs
/-- The automaton of the classes is the smallest one. -/
theorem canon_cn (hD : okD D) {k : Nat} (hk : (rnd (cn D) 0 k).length ≤ k) (hk2 : k ≤ 2000) : autD (cn D) (de D) (rnd (cn D) 0 k) = canon (lgD D) := by
  have h := canon_of (nx := cn D) (en := de D) (P := fun s => s < D.1.length ∧ cls D s = s) (s0 := 0) ⟨hD.1.1, cls_zero D⟩
    (fun s hs => ⟨⟨cn_lt D hD hs.1 (by omega), cls_idem D _⟩, ⟨cn_lt D hD hs.1 (by omega), cls_idem D _⟩, ⟨cn_lt D hD hs.1 (by omega), cls_idem D _⟩⟩)
    (fun s t hs ht he => by rw [lg_cn D hD hs.1, lg_cn D hD ht.1] at he; rw [← hs.2, ← ht.2]; exact (cls_same D).2 he) hk hk2
  rw [h.1, lg_cn D hD hD.1.1]
  rfl
end minimal
end Go.Proofs.Ytbcjhiponbfbnaa
namespace Go.Proofs.Ytbcjhiponbfbnaa
open Go.RowKit

/-- The slice v has n elements, whose cells are cs; they lie in blocks of S. -/
def Fl (S : Nat → Prop) (w : World) (v : Value) (n : Nat) (cs : List Value) : Prop :=
  ∃ a cap, v = .slice a n cap ∧ (n ≤ maxLen ∧ n ≤ cap ∧ (a = none → cap = 0)) ∧ ∀ i (h : i < cs.length), ∃ b off, a = some ⟨b, off, none⟩ ∧ S b ∧ w.cell? ⟨b, off + i, none⟩ = some cs[i]

/-- Every cell of w in a block of S reads the same in w'. -/
def Kp (S : Nat → Prop) (w w' : World) : Prop := ∀ ad v, S ad.block → w.cell? ad = some v → w'.cell? ad = some v

variable {S T : Nat → Prop}
theorem Kp.refl (w : World) : Kp S w w := fun _ _ _ h => h
theorem Kp.trans {a b c : World} (h : Kp S a b) (k : Kp S b c) : Kp S a c := fun ad v s e => k ad v s (h ad v s e)
theorem Kp.mono {w w' : World} (h : Kp T w w') (k : ∀ b, S b → T b) : Kp S w w' := fun ad v s e => h ad v (k _ s) e
theorem kpB {w w' : World} (h : Below w.heap.size w w') : Kp S w w' := fun ad v _ e => by
  rw [h.cell (World.block_lt_of_cell? w ad e)]; exact e
/-- Below a number. -/
theorem kpL {B : Nat} {w w' : World} (h : Below B w w') : Kp (· < B) w w' := fun ad v s e => by
  rw [h.cell s]; exact e
theorem kpG {w w' : World} {row : Option Nat} (h : w.grownBy w' row) : Kp (fun b => some b ≠ row) w w' := fun ad v s e => h.cell e s
theorem kpSet {w : World} {b o : Nat} {v : Value} : Kp (· ≠ b) w (w.setCell ⟨b, o, none⟩ v) := fun a u s e => by
  rw [World.cell?_of_block (Below.heap_setCell w ⟨b, o, none⟩ v a.block s)]; exact e
theorem kpAlloc {w : World} {o : Obj} : Kp S w (w.alloc o) := kpB ((Below.refl _ _).alloc (Nat.le_refl _) o)

theorem Fl.stay {w w' : World} {v : Value} {n : Nat} {cs : List Value} (h : Fl S w v n cs) (k : Kp S w w') : Fl S w' v n cs := by
  obtain ⟨a, cap, rfl, hn, hc⟩ := h
  exact ⟨a, cap, rfl, hn, fun i hi => let ⟨b, off, e, s, c⟩ := hc i hi; ⟨b, off, e, s, k _ _ s c⟩⟩
theorem Fl.mono {w : World} {v : Value} {n : Nat} {cs : List Value} (h : Fl S w v n cs) (k : ∀ b, S b → T b) : Fl T w v n cs := by
  obtain ⟨a, cap, rfl, hn, hc⟩ := h
  exact ⟨a, cap, rfl, hn, fun i hi => let ⟨b, off, e, s, c⟩ := hc i hi; ⟨b, off, e, k _ s, c⟩⟩
/-- Every cell that is read lies in the heap. -/
theorem Fl.inHeap {w : World} {v : Value} {n : Nat} {cs : List Value} (h : Fl S w v n cs) : Fl (fun b => S b ∧ b < w.heap.size) w v n cs := by
  obtain ⟨a, cap, rfl, hn, hc⟩ := h
  exact ⟨a, cap, rfl, hn, fun i hi => let ⟨b, off, e, s, c⟩ := hc i hi; ⟨b, off, e, ⟨s, World.block_lt_of_cell? w _ c⟩, c⟩⟩

theorem Fl.shape {w : World} {v : Value} {n : Nat} {cs : List Value} (h : Fl S w v n cs) : ∃ a cap, v = .slice a n cap ∧ n ≤ 9223372036854775807 := by
  obtain ⟨a, cap, rfl, hn, hc⟩ := h
  exact ⟨a, cap, rfl, by simpa [maxLen] using hn.1⟩
theorem Fl.cap {w : World} {a : Option Addr} {n m cap : Nat} {cs : List Value} (h : Fl S w (.slice a n cap) m cs) : n ≤ cap := by
  obtain ⟨a, cap, e, hn, hc⟩ := h
  cases e
  exact hn.2.1
theorem Fl.nocap {w : World} {n m cap : Nat} {cs : List Value} (h : Fl S w (.slice none n cap) m cs) : cap = 0 ∧ n = 0 ∧ m = 0 := by
  obtain ⟨a, cap, e, hn, hc⟩ := h
  cases e
  have := hn.2.2 rfl
  have := hn.2.1
  exact ⟨by omega, by omega, by omega⟩

theorem Fl.at {w : World} {a : Option Addr} {n m cap : Nat} {cs : List Value} (h : Fl S w (.slice a n cap) m cs) {i : Nat} (hi : i < cs.length) :
    ∃ b off, a = some ⟨b, off, none⟩ ∧ w.cell? ⟨b, off + i, none⟩ = some cs[i] := by
  obtain ⟨a', cap', e, hn, hc⟩ := h
  cases e
  obtain ⟨b, off, e, _, c⟩ := hc i hi
  exact ⟨b, off, e, c⟩

theorem Fl.nil (w : World) : Fl S w (.slice none 0 0) 0 [] := ⟨none, 0, rfl, ⟨Nat.zero_le _, Nat.le_refl _, fun _ => rfl⟩, fun i hi => absurd hi (Nat.not_lt_zero _)⟩

/-- Two cells of one slice. -/
theorem Fl.at2 {w : World} {a : Option Addr} {n m cap : Nat} {cs : List Value} (h : Fl S w (.slice a n cap) m cs) {i : Nat} (hi : i + 1 < cs.length) :
    ∃ b off, a = some ⟨b, off, none⟩ ∧ w.cell? ⟨b, off + i, none⟩ = some cs[i] ∧ w.cell? ⟨b, off + i + 1, none⟩ = some cs[i+1] := by
  obtain ⟨b, off, rfl, h0⟩ := h.at (i := i) (by omega)
  obtain ⟨b', off', e, h1⟩ := h.at (i := i + 1) hi
  cases e
  exact ⟨b, off, rfl, h0, h1⟩

theorem Fl.at3 {w : World} {a : Option Addr} {n m cap : Nat} {cs : List Value} (h : Fl S w (.slice a n cap) m cs) {i : Nat} (hi : i + 2 < cs.length) :
    ∃ b off, a = some ⟨b, off, none⟩ ∧ w.cell? ⟨b, off + i, none⟩ = some cs[i] ∧ w.cell? ⟨b, off + i + 1, none⟩ = some cs[i+1] ∧ w.cell? ⟨b, off + i + 2, none⟩ = some cs[i+2] := by
  obtain ⟨b, off, rfl, h0⟩ := h.at (i := i) (by omega)
  obtain ⟨b', off', e, h1⟩ := h.at (i := i + 1) (by omega)
  cases e
  obtain ⟨b', off', e, h2⟩ := h.at (i := i + 2) (by omega)
  cases e
  exact ⟨b, off, rfl, h0, h1, h2⟩

/-- The same, and the block may be written. -/
def FlW (S : Nat → Prop) (w : World) (v : Value) (n : Nat) (cs : List Value) : Prop :=
  ∃ a cap, v = .slice a n cap ∧ (n ≤ maxLen ∧ n ≤ cap ∧ (a = none → cap = 0)) ∧ ∀ i (h : i < cs.length), ∃ b off, a = some ⟨b, off, none⟩ ∧ S b ∧ w.cell? ⟨b, off + i, none⟩ = some cs[i] ∧ ∀ o, w.frozen? ⟨b, o, none⟩ = false
theorem FlW.fl {w : World} {v : Value} {n : Nat} {cs : List Value} (h : FlW S w v n cs) : Fl S w v n cs := by
  obtain ⟨a, cap, rfl, hn, hc⟩ := h
  exact ⟨a, cap, rfl, hn, fun i hi => let ⟨b, off, e, s, c, _⟩ := hc i hi; ⟨b, off, e, s, c⟩⟩
theorem FlW.shape {w : World} {v : Value} {n : Nat} {cs : List Value} (h : FlW S w v n cs) : ∃ a cap, v = .slice a n cap ∧ n ≤ 9223372036854775807 := h.fl.shape
theorem FlW.mono {w : World} {v : Value} {n : Nat} {cs : List Value} (h : FlW S w v n cs) (k : ∀ b, S b → T b) : FlW T w v n cs := by
  obtain ⟨a, cap, rfl, hn, hc⟩ := h
  exact ⟨a, cap, rfl, hn, fun i hi => let ⟨b, off, e, s, c⟩ := hc i hi; ⟨b, off, e, k _ s, c⟩⟩
theorem FlW.at {w : World} {a : Option Addr} {n m cap : Nat} {cs : List Value} (h : FlW S w (.slice a n cap) m cs) {i : Nat} (hi : i < cs.length) :
    ∃ b off, a = some ⟨b, off, none⟩ ∧ S b ∧ w.cell? ⟨b, off + i, none⟩ = some cs[i] ∧ ∀ o, w.frozen? ⟨b, o, none⟩ = false := by
  obtain ⟨a', cap', e, hn, hc⟩ := h
  cases e
  exact hc i hi
/-- Blocks of S stay as they are. -/
def Ks (S : Nat → Prop) (w w' : World) : Prop := ∀ b, S b → b < w.heap.size → w'.heap[b]? = w.heap[b]?
theorem Ks.kp {w w' : World} (h : Ks S w w') : Kp S w w' := fun ad v s e => by
  rw [World.cell?_of_block (h ad.block s (World.block_lt_of_cell? w ad e))]; exact e
theorem ksB {w w' : World} (h : Below w.heap.size w w') : Ks S w w' := fun b _ hb => h.block b hb
theorem ksG {w w' : World} {row : Option Nat} (h : w.grownBy w' row) : Ks (fun b => some b ≠ row) w w' := fun b s hb => h.block b hb s
theorem Ks.mono {w w' : World} (h : Ks T w w') (k : ∀ b, S b → T b) : Ks S w w' := fun b s hb => h b (k _ s) hb
theorem FlW.stay {w w' : World} {v : Value} {n : Nat} {cs : List Value} (h : FlW S w v n cs) (k : Ks S w w') : FlW S w' v n cs := by
  obtain ⟨a, cap, rfl, hn, hc⟩ := h
  refine ⟨a, cap, rfl, hn, fun i hi => ?_⟩
  obtain ⟨b, off, e, s, c, f⟩ := hc i hi
  have hb := k b s (World.block_lt_of_cell? w _ c)
  exact ⟨b, off, e, s, by rw [World.cell?_of_block hb]; exact c, fun o => by rw [World.frozen?_of_block hb]; exact f o⟩
theorem cell_setOther {w : World} {b o o' : Nat} {u v : Value} (h : w.cell? ⟨b, o', none⟩ = some v) (hne : o' ≠ o) : (w.setCell ⟨b, o, none⟩ u).cell? ⟨b, o', none⟩ = some v := by
  unfold World.cell? at h ⊢
  simp only [World.setCell, Array.getElem?_modify, if_true] at h ⊢
  cases hb : w.heap[b]? with
  | none => simp [hb] at h
  | some ob =>
    cases ob <;> simp_all
    rw [Array.getElem?_setIfInBounds_ne (Ne.symm hne)]
    exact h
theorem cell_setSame {w : World} {b o : Nat} {u v : Value} (h : w.cell? ⟨b, o, none⟩ = some v) : (w.setCell ⟨b, o, none⟩ u).cell? ⟨b, o, none⟩ = some u := by
  unfold World.cell? at h ⊢
  simp only [World.setCell, Array.getElem?_modify, if_true] at h ⊢
  cases hb : w.heap[b]? with
  | none => simp [hb] at h
  | some ob =>
    cases ob <;> simp_all
    obtain ⟨hlt, _⟩ := Array.getElem?_eq_some_iff.1 h
    rw [Array.getElem?_setIfInBounds_self_of_lt hlt]
theorem frozen_set {w : World} {a : Addr} {u : Value} (p : Addr) : (w.setCell a u).frozen? p = w.frozen? p := by
  by_cases h : p.block = a.block
  · unfold World.frozen?
    simp only [World.setCell, Array.getElem?_modify, h, if_true]
    cases hb : w.heap[a.block]? with
    | none => rfl
    | some ob => cases ob <;> rfl
  · exact World.frozen?_of_block (Below.heap_setCell w a u p.block h)
theorem FlW.set {w : World} {b off n m cap : Nat} {cs : List Value} (h : FlW S w (.slice (some ⟨b, off, none⟩) n cap) m cs) (i : Nat) (u : Value) (hi : i < cs.length) :
    FlW S (w.setCell ⟨b, off + i, none⟩ u) (.slice (some ⟨b, off, none⟩) n cap) m (cs.set i u) := by
  obtain ⟨a, cap, e, hn, hc⟩ := h
  cases e
  refine ⟨_, _, rfl, hn, fun j hj => ?_⟩
  obtain ⟨b', off', e, s, c, f⟩ := hc j (by simpa using hj)
  cases e
  refine ⟨b, off, rfl, s, ?_, fun o => by rw [frozen_set]; exact f o⟩
  by_cases hij : i = j
  · subst hij; simp; exact cell_setSame c
  · rw [List.getElem_set_ne hij]; exact cell_setOther c (by omega)
theorem grownSet (w : World) (b o : Nat) (u : Value) : w.grownBy (w.setCell ⟨b, o, none⟩ u) (some b) :=
  ⟨rfl, rfl, rfl, by simp [World.setCell], fun k _ hne => Below.heap_setCell _ _ _ _ (by simpa using hne)⟩
theorem grownRefl (w : World) (r : Option Nat) : w.grownBy w r := ⟨rfl, rfl, rfl, Nat.le_refl _, fun _ _ _ => rfl⟩
theorem grownTrans {a b c : World} {r : Option Nat} (h : a.grownBy b r) (k : b.grownBy c r) : a.grownBy c r :=
  ⟨k.os.trans h.os, k.tape.trans h.tape, k.output.trans h.output, Nat.le_trans h.size k.size, fun i hi hr => (k.block i (Nat.lt_of_lt_of_le hi h.size) hr).trans (h.block i hi hr)⟩
theorem grownBel {a b : World} {r : Option Nat} (h : Below a.heap.size a b) : a.grownBy b r := ⟨h.os, h.tape, h.output, h.size, fun i hi _ => h.block i hi⟩
theorem grownLow {w w' : World} {row : Option Nat} {B : Nat} (h : w.grownBy w' row) (hk : ∀ k, row = some k → B ≤ k) (hB : B ≤ w.heap.size) : Below B w w' :=
  ⟨h.os, h.tape, h.output, h.size, fun i hi => h.block i (by omega) (fun e => by have := hk i e.symm; omega)⟩
/-- The first m cells turned. -/
def mkd (cs : List Value) (f : Nat → Value) (m : Nat) : List Value := (List.range m).map f ++ cs.drop m
theorem mkd_zero (cs : List Value) (f : Nat → Value) : mkd cs f 0 = cs := by simp [mkd]
theorem mkd_length (cs : List Value) (f : Nat → Value) (m : Nat) (h : m ≤ cs.length) : (mkd cs f m).length = cs.length := by simp [mkd]; omega
theorem mkd_set (cs : List Value) (f : Nat → Value) (m : Nat) (h : m < cs.length) : (mkd cs f m).set m (f m) = mkd cs f (m + 1) := by
  unfold mkd
  rw [List.set_append_right _ _ (by simp), List.length_map, List.length_range, Nat.sub_self, List.drop_eq_getElem_cons h, List.set_cons_zero, List.range_succ, List.map_append, List.append_assoc]
  rfl
theorem mkd_all (cs : List Value) (f : Nat → Value) (m : Nat) (h : cs.length = m) : mkd cs f m = (List.range m).map f := by
  unfold mkd; rw [List.drop_of_length_le (by omega)]; simp

def Ints (S : Nat → Prop) (w : World) (v : Value) (xs : List Int) : Prop := Fl S w v xs.length (xs.map (.int .i64 ·))
def Bools (S : Nat → Prop) (w : World) (v : Value) (xs : List Bool) : Prop := Fl S w v xs.length (xs.map .bool)
def Bytes (S : Nat → Prop) (w : World) (v : Value) (xs : List UInt8) : Prop := Fl S w v xs.length (xs.map fun b => .int .u8 b.toNat)
def Strs (S : Nat → Prop) (w : World) (v : Value) (xs : List ByteArray) : Prop := Fl S w v xs.length (xs.map .string) ∧ ∀ s ∈ xs, s.size ≤ maxLen
def cells2 (xs : List (Int × Int)) : List Value := xs.flatMap fun p => [.int .i64 p.1, .int .i64 p.2]
def cells3 (xs : List (Int × Int × Int)) : List Value := xs.flatMap fun p => [.int .i64 p.1, .int .i64 p.2.1, .int .i64 p.2.2]
def Pairs (S : Nat → Prop) (w : World) (v : Value) (xs : List (Int × Int)) : Prop := Fl S w v xs.length (cells2 xs)
def Trips (S : Nat → Prop) (w : World) (v : Value) (xs : List (Int × Int × Int)) : Prop := Fl S w v xs.length (cells3 xs)
/-- A slice whose elements, a cell each, read as the xs. -/
def Nest {α : Type} (R : World → Value → α → Prop) (S : Nat → Prop) (w : World) (v : Value) (xs : List α) : Prop :=
  ∃ vs : List Value, Fl S w v xs.length vs ∧ vs.length = xs.length ∧ ∀ i (h : i < xs.length), R w (vs.getD i undef) xs[i]
theorem Nest.at {α : Type} {R : World → Value → α → Prop} {w : World} {a : Option Addr} {n cap : Nat} {xs : List α} (h : Nest R S w (.slice a n cap) xs) {k : Nat} (hk : k < xs.length) :
    ∃ b off v, a = some ⟨b, off, none⟩ ∧ w.cell? ⟨b, off + k, none⟩ = some v ∧ R w v xs[k] := by
  obtain ⟨vs, h1, h2, h3⟩ := h
  obtain ⟨b, off, e, c⟩ := Fl.at h1 (i := k) (by omega)
  refine ⟨b, off, _, e, c, ?_⟩
  have := h3 k hk
  rwa [List.getD_eq_getElem?_getD, List.getElem?_eq_getElem (by omega)] at this
theorem Nest.shape {α : Type} {R : World → Value → α → Prop} {w : World} {v : Value} {xs : List α} (h : Nest R S w v xs) : ∃ a cap, v = .slice a xs.length cap ∧ xs.length ≤ 9223372036854775807 := let ⟨_, h1, _⟩ := h; Fl.shape h1
theorem Nest.stay {α : Type} {R : World → Value → α → Prop} {w w' : World} {v : Value} {xs : List α} (h : Nest R S w v xs) (k : Kp S w w') (hR : ∀ v x, R w v x → R w' v x) : Nest R S w' v xs := by
  obtain ⟨vs, h1, h2, h3⟩ := h
  exact ⟨vs, h1.stay k, h2, fun i hi => hR _ _ (h3 i hi)⟩
def IntSS (S : Nat → Prop) (w : World) (v : Value) (xss : List (List Int)) : Prop :=
  ∃ vs : List Value, Fl S w v xss.length vs ∧ vs.length = xss.length ∧ ∀ i (h : i < xss.length), Ints S w (vs.getD i undef) xss[i]
def DfaR (S : Nat → Prop) (w : World) (vn ve : Value) (D : DfaD) : Prop := IntSS S w vn D.1 ∧ Bools S w ve D.2
structure NfaD where
  states : Int
  moves : List (Int × Int × Int)
  firsts : List Int
  ends : List Int
def NfaR (S : Nat → Prop) (w : World) (vm vf ve : Value) (D : NfaD) : Prop := Trips S w vm D.moves ∧ Ints S w vf D.firsts ∧ Ints S w ve D.ends
/-- A slice of automata: two cells each. -/
def DfaS (S : Nat → Prop) (w : World) (v : Value) (Ds : List DfaD) : Prop :=
  ∃ vs : List (Value × Value), Fl S w v Ds.length (vs.flatMap fun p => [p.1, p.2]) ∧ vs.length = Ds.length ∧ ∀ i (h : i < Ds.length), DfaR S w (vs.getD i (undef, undef)).1 (vs.getD i (undef, undef)).2 Ds[i]

theorem IntSS.stay {w w' : World} {v : Value} {x : List (List Int)} (h : IntSS S w v x) (k : Kp S w w') : IntSS S w' v x := by
  obtain ⟨vs, h1, h2, h3⟩ := h
  exact ⟨vs, h1.stay k, h2, fun i hi => Fl.stay (h3 i hi) k⟩
theorem DfaR.stay {w w' : World} {vn ve : Value} {D : DfaD} (h : DfaR S w vn ve D) (k : Kp S w w') : DfaR S w' vn ve D := ⟨h.1.stay k, Fl.stay h.2 k⟩
theorem NfaR.stay {w w' : World} {a b c : Value} {D : NfaD} (h : NfaR S w a b c D) (k : Kp S w w') : NfaR S w' a b c D := ⟨Fl.stay h.1 k, Fl.stay h.2.1 k, Fl.stay h.2.2 k⟩
theorem Ints.stay {w w' : World} {v : Value} {x : List Int} (h : Ints S w v x) (k : Kp S w w') : Ints S w' v x := Fl.stay h k
theorem Bools.stay {w w' : World} {v : Value} {x : List Bool} (h : Bools S w v x) (k : Kp S w w') : Bools S w' v x := Fl.stay h k
theorem Pairs.stay {w w' : World} {v : Value} {x : List (Int × Int)} (h : Pairs S w v x) (k : Kp S w w') : Pairs S w' v x := Fl.stay h k
theorem Trips.stay {w w' : World} {v : Value} {x : List (Int × Int × Int)} (h : Trips S w v x) (k : Kp S w w') : Trips S w' v x := Fl.stay h k
theorem Bytes.stay {w w' : World} {v : Value} {x : List UInt8} (h : Bytes S w v x) (k : Kp S w w') : Bytes S w' v x := Fl.stay h k
theorem Strs.stay {w w' : World} {v : Value} {x : List ByteArray} (h : Strs S w v x) (k : Kp S w w') : Strs S w' v x := ⟨Fl.stay h.1 k, h.2⟩
theorem DfaS.stay {w w' : World} {v : Value} {x : List DfaD} (h : DfaS S w v x) (k : Kp S w w') : DfaS S w' v x := by
  obtain ⟨vs, h1, h2, h3⟩ := h
  exact ⟨vs, h1.stay k, h2, fun i hi => (h3 i hi).stay k⟩

theorem IntSS.mono {w : World} {v : Value} {x : List (List Int)} (h : IntSS S w v x) (k : ∀ b, S b → T b) : IntSS T w v x := by
  obtain ⟨vs, h1, h2, h3⟩ := h
  exact ⟨vs, h1.mono k, h2, fun i hi => Fl.mono (h3 i hi) k⟩
theorem DfaR.mono {w : World} {vn ve : Value} {D : DfaD} (h : DfaR S w vn ve D) (k : ∀ b, S b → T b) : DfaR T w vn ve D := ⟨h.1.mono k, Fl.mono h.2 k⟩
theorem NfaR.mono {w : World} {a b c : Value} {D : NfaD} (h : NfaR S w a b c D) (k : ∀ b, S b → T b) : NfaR T w a b c D := ⟨Fl.mono h.1 k, Fl.mono h.2.1 k, Fl.mono h.2.2 k⟩
theorem Ints.mono {w : World} {v : Value} {x : List Int} (h : Ints S w v x) (k : ∀ b, S b → T b) : Ints T w v x := Fl.mono h k
theorem Bools.mono {w : World} {v : Value} {x : List Bool} (h : Bools S w v x) (k : ∀ b, S b → T b) : Bools T w v x := Fl.mono h k
theorem Pairs.mono {w : World} {v : Value} {x : List (Int × Int)} (h : Pairs S w v x) (k : ∀ b, S b → T b) : Pairs T w v x := Fl.mono h k
theorem Trips.mono {w : World} {v : Value} {x : List (Int × Int × Int)} (h : Trips S w v x) (k : ∀ b, S b → T b) : Trips T w v x := Fl.mono h k
theorem Bytes.mono {w : World} {v : Value} {x : List UInt8} (h : Bytes S w v x) (k : ∀ b, S b → T b) : Bytes T w v x := Fl.mono h k
theorem Strs.mono {w : World} {v : Value} {x : List ByteArray} (h : Strs S w v x) (k : ∀ b, S b → T b) : Strs T w v x := ⟨Fl.mono h.1 k, h.2⟩
theorem Ints.inHeap {w : World} {v : Value} {x : List Int} (h : Ints S w v x) : Ints (fun b => S b ∧ b < w.heap.size) w v x := Fl.inHeap h
theorem Bools.inHeap {w : World} {v : Value} {x : List Bool} (h : Bools S w v x) : Bools (fun b => S b ∧ b < w.heap.size) w v x := Fl.inHeap h
theorem Pairs.inHeap {w : World} {v : Value} {x : List (Int × Int)} (h : Pairs S w v x) : Pairs (fun b => S b ∧ b < w.heap.size) w v x := Fl.inHeap h
theorem Trips.inHeap {w : World} {v : Value} {x : List (Int × Int × Int)} (h : Trips S w v x) : Trips (fun b => S b ∧ b < w.heap.size) w v x := Fl.inHeap h
theorem Strs.inHeap {w : World} {v : Value} {x : List ByteArray} (h : Strs S w v x) : Strs (fun b => S b ∧ b < w.heap.size) w v x := ⟨Fl.inHeap h.1, h.2⟩
theorem IntSS.inHeap {w : World} {v : Value} {x : List (List Int)} (h : IntSS S w v x) : IntSS (fun b => S b ∧ b < w.heap.size) w v x := by
  obtain ⟨vs, h1, h2, h3⟩ := h
  exact ⟨vs, h1.inHeap, h2, fun i hi => Fl.inHeap (h3 i hi)⟩
theorem DfaR.inHeap {w : World} {vn ve : Value} {D : DfaD} (h : DfaR S w vn ve D) : DfaR (fun b => S b ∧ b < w.heap.size) w vn ve D := ⟨h.1.inHeap, Fl.inHeap h.2⟩
theorem Ints.at {w : World} {a : Option Addr} {n cap : Nat} {xs : List Int} (h : Ints S w (.slice a n cap) xs) {k : Nat} (hk : k < xs.length) :
    ∃ b off, a = some ⟨b, off, none⟩ ∧ w.cell? ⟨b, off + k, none⟩ = some (.int .i64 xs[k]) := by
  obtain ⟨b, off, e, c⟩ := Fl.at h (i := k) (by simpa using hk)
  exact ⟨b, off, e, by simpa using c⟩
theorem Bools.at {w : World} {a : Option Addr} {n cap : Nat} {xs : List Bool} (h : Bools S w (.slice a n cap) xs) {k : Nat} (hk : k < xs.length) :
    ∃ b off, a = some ⟨b, off, none⟩ ∧ w.cell? ⟨b, off + k, none⟩ = some (.bool xs[k]) := by
  obtain ⟨b, off, e, c⟩ := Fl.at h (i := k) (by simpa using hk)
  exact ⟨b, off, e, by simpa using c⟩
theorem Bytes.at {w : World} {a : Option Addr} {n cap : Nat} {xs : List UInt8} (h : Bytes S w (.slice a n cap) xs) {k : Nat} (hk : k < xs.length) :
    ∃ b off, a = some ⟨b, off, none⟩ ∧ w.cell? ⟨b, off + k, none⟩ = some (.int .u8 xs[k].toNat) := by
  obtain ⟨b, off, e, c⟩ := Fl.at h (i := k) (by simpa using hk)
  exact ⟨b, off, e, by simpa using c⟩
theorem Strs.at {w : World} {a : Option Addr} {n cap : Nat} {xs : List ByteArray} (h : Strs S w (.slice a n cap) xs) {k : Nat} (hk : k < xs.length) :
    ∃ b off, a = some ⟨b, off, none⟩ ∧ w.cell? ⟨b, off + k, none⟩ = some (.string xs[k]) := by
  obtain ⟨b, off, e, c⟩ := Fl.at h.1 (i := k) (by simpa using hk)
  exact ⟨b, off, e, by simpa using c⟩
theorem IntSS.at {w : World} {a : Option Addr} {n cap : Nat} {xss : List (List Int)} (h : IntSS S w (.slice a n cap) xss) {k : Nat} (hk : k < xss.length) :
    ∃ b off v, a = some ⟨b, off, none⟩ ∧ w.cell? ⟨b, off + k, none⟩ = some v ∧ Ints S w v xss[k] := by
  obtain ⟨vs, h1, h2, h3⟩ := h
  obtain ⟨b, off, e, c⟩ := Fl.at h1 (i := k) (by omega)
  refine ⟨b, off, _, e, c, ?_⟩
  have := h3 k hk
  rwa [List.getD_eq_getElem?_getD, List.getElem?_eq_getElem (by omega)] at this

theorem length_cells2 (xs : List (Int × Int)) : (cells2 xs).length = 2 * xs.length := by
  unfold cells2; induction xs with
  | nil => rfl
  | cons p t ih => simp only [List.flatMap_cons, List.length_append, ih, List.length_cons, List.length_nil]; omega
theorem length_cells3 (xs : List (Int × Int × Int)) : (cells3 xs).length = 3 * xs.length := by
  unfold cells3; induction xs with
  | nil => rfl
  | cons p t ih => simp only [List.flatMap_cons, List.length_append, ih, List.length_cons, List.length_nil]; omega
theorem length_flat2 (xs : List (Value × Value)) : (xs.flatMap fun p => [p.1, p.2]).length = 2 * xs.length := by
  induction xs with
  | nil => rfl
  | cons p t ih => simp only [List.flatMap_cons, List.length_append, ih, List.length_cons, List.length_nil]; omega
theorem flat2_at {α β : Type} (f g : α → β) (xs : List α) (k : Nat) (h : k < xs.length) :
    (xs.flatMap fun p => [f p, g p])[2 * k]? = some (f xs[k]) ∧ (xs.flatMap fun p => [f p, g p])[2 * k + 1]? = some (g xs[k]) := by
  induction xs generalizing k with
  | nil => simp at h
  | cons p t ih =>
    cases k with
    | zero => simp
    | succ k =>
      have := ih k (by simpa using h)
      simp only [List.flatMap_cons, show 2 * (k + 1) = 2 * k + 2 by omega, show 2 * k + 2 + 1 = (2 * k + 1) + 2 by omega]
      simpa using this
theorem flat3_at {α β : Type} (f g i : α → β) (xs : List α) (k : Nat) (h : k < xs.length) :
    (xs.flatMap fun p => [f p, g p, i p])[3 * k]? = some (f xs[k]) ∧ (xs.flatMap fun p => [f p, g p, i p])[3 * k + 1]? = some (g xs[k]) ∧ (xs.flatMap fun p => [f p, g p, i p])[3 * k + 2]? = some (i xs[k]) := by
  induction xs generalizing k with
  | nil => simp at h
  | cons p t ih =>
    cases k with
    | zero => simp
    | succ k =>
      have := ih k (by simpa using h)
      simp only [List.flatMap_cons, show 3 * (k + 1) = 3 * k + 3 by omega, show 3 * k + 3 + 1 = (3 * k + 1) + 3 by omega, show 3 * k + 3 + 2 = (3 * k + 2) + 3 by omega]
      simpa using this

theorem Pairs.at {w : World} {a : Option Addr} {n cap : Nat} {xs : List (Int × Int)} (h : Pairs S w (.slice a n cap) xs) {k : Nat} (hk : k < xs.length) :
    ∃ b off, a = some ⟨b, off, none⟩ ∧ w.cell? ⟨b, off + k * 2, none⟩ = some (.int .i64 xs[k].1) ∧ w.cell? ⟨b, off + k * 2 + 1, none⟩ = some (.int .i64 xs[k].2) := by
  have hl := length_cells2 xs
  obtain ⟨b, off, e, c0, c1⟩ := Fl.at2 h (i := 2 * k) (by omega)
  obtain ⟨e0, e1⟩ := flat2_at (fun p : Int × Int => Value.int .i64 p.1) (fun p => Value.int .i64 p.2) xs k hk
  refine ⟨b, off, e, ?_, ?_⟩
  · rw [Nat.mul_comm k 2, c0]; rw [← e0]; exact (List.getElem?_eq_getElem _).symm
  · rw [Nat.mul_comm k 2, c1]; rw [← e1]; exact (List.getElem?_eq_getElem _).symm
theorem Trips.at {w : World} {a : Option Addr} {n cap : Nat} {xs : List (Int × Int × Int)} (h : Trips S w (.slice a n cap) xs) {k : Nat} (hk : k < xs.length) :
    ∃ b off, a = some ⟨b, off, none⟩ ∧ w.cell? ⟨b, off + k * 3, none⟩ = some (.int .i64 xs[k].1) ∧ w.cell? ⟨b, off + k * 3 + 1, none⟩ = some (.int .i64 xs[k].2.1) ∧ w.cell? ⟨b, off + k * 3 + 2, none⟩ = some (.int .i64 xs[k].2.2) := by
  have hl := length_cells3 xs
  obtain ⟨b, off, e, c0, c1, c2⟩ := Fl.at3 h (i := 3 * k) (by omega)
  obtain ⟨e0, e1, e2⟩ := flat3_at (fun p : Int × Int × Int => Value.int .i64 p.1) (fun p => Value.int .i64 p.2.1) (fun p => Value.int .i64 p.2.2) xs k hk
  refine ⟨b, off, e, ?_, ?_, ?_⟩
  · rw [Nat.mul_comm k 3, c0]; rw [← e0]; exact (List.getElem?_eq_getElem _).symm
  · rw [Nat.mul_comm k 3, c1]; rw [← e1]; exact (List.getElem?_eq_getElem _).symm
  · rw [Nat.mul_comm k 3, c2]; rw [← e2]; exact (List.getElem?_eq_getElem _).symm
theorem DfaS.at {w : World} {a : Option Addr} {n cap : Nat} {xs : List DfaD} (h : DfaS S w (.slice a n cap) xs) {k : Nat} (hk : k < xs.length) :
    ∃ b off vn ve, a = some ⟨b, off, none⟩ ∧ w.cell? ⟨b, off + k * 2, none⟩ = some vn ∧ w.cell? ⟨b, off + k * 2 + 1, none⟩ = some ve ∧ DfaR S w vn ve xs[k] := by
  obtain ⟨vs, h1, h2, h3⟩ := h
  have hl := length_flat2 vs
  obtain ⟨b, off, e, c0, c1⟩ := Fl.at2 h1 (i := 2 * k) (by omega)
  obtain ⟨e0, e1⟩ := flat2_at (fun p : Value × Value => p.1) (fun p => p.2) vs k (by omega)
  have hk' : k < vs.length := by omega
  refine ⟨b, off, vs[k].1, vs[k].2, e, ?_, ?_, ?_⟩
  · rw [Nat.mul_comm k 2, c0]; rw [← e0]; exact (List.getElem?_eq_getElem _).symm
  · rw [Nat.mul_comm k 2, c1]; rw [← e1]; exact (List.getElem?_eq_getElem _).symm
  · have := h3 k hk
    rwa [List.getD_eq_getElem?_getD, List.getElem?_eq_getElem hk'] at this

theorem Ints.shape {w : World} {v : Value} {xs : List Int} (h : Ints S w v xs) : ∃ a cap, v = .slice a xs.length cap ∧ xs.length ≤ 9223372036854775807 := Fl.shape h
theorem Bools.shape {w : World} {v : Value} {xs : List Bool} (h : Bools S w v xs) : ∃ a cap, v = .slice a xs.length cap ∧ xs.length ≤ 9223372036854775807 := Fl.shape h
theorem Bytes.shape {w : World} {v : Value} {xs : List UInt8} (h : Bytes S w v xs) : ∃ a cap, v = .slice a xs.length cap ∧ xs.length ≤ 9223372036854775807 := Fl.shape h
theorem Strs.shape {w : World} {v : Value} {xs : List ByteArray} (h : Strs S w v xs) : ∃ a cap, v = .slice a xs.length cap ∧ xs.length ≤ 9223372036854775807 := Fl.shape h.1
theorem Pairs.shape {w : World} {v : Value} {xs : List (Int × Int)} (h : Pairs S w v xs) : ∃ a cap, v = .slice a xs.length cap ∧ xs.length ≤ 9223372036854775807 := Fl.shape h
theorem Trips.shape {w : World} {v : Value} {xs : List (Int × Int × Int)} (h : Trips S w v xs) : ∃ a cap, v = .slice a xs.length cap ∧ xs.length ≤ 9223372036854775807 := Fl.shape h
theorem IntSS.shape {w : World} {v : Value} {xs : List (List Int)} (h : IntSS S w v xs) : ∃ a cap, v = .slice a xs.length cap ∧ xs.length ≤ 9223372036854775807 := let ⟨_, h1, _⟩ := h; Fl.shape h1
theorem DfaS.shape {w : World} {v : Value} {xs : List DfaD} (h : DfaS S w v xs) : ∃ a cap, v = .slice a xs.length cap ∧ xs.length ≤ 9223372036854775807 := let ⟨_, h1, _⟩ := h; Fl.shape h1
end Go.Proofs.Ytbcjhiponbfbnaa
namespace Go.Proofs.Ytbcjhiponbfbnaa
open Go.RowKit
set_option maxRecDepth 100000

/-- Slice type t has elements e of sz cells and by bytes. -/
structure ElemT (t e : TypeId) (sz bytes : Nat) : Prop where
  ul : Try.prog.underlying t = some (.slice e)
  inf : ∃ i z, Try.prog.info? e = some i ∧ i.zero = some z ∧ i.size = sz ∧ i.bytes = bytes ∧ z.cells.size = sz
  pos : 0 < sz

theorem ElemT.of {t e : TypeId} {sz bytes : Nat} {z : Value} (ul : Try.prog.underlying t = some (.slice e)) (h : (Try.prog.info? e).map (fun i => (i.zero, i.size, i.bytes)) = some (some z, sz, bytes)) (hz : z.cells.size = sz) (hp : 0 < sz) : ElemT t e sz bytes := by
  refine ⟨ul, ?_, hp⟩
  cases hi : Try.prog.info? e with
  | none => rw [hi] at h; simp at h
  | some i =>
    rw [hi] at h
    simp at h
    exact ⟨i, z, rfl, h.1, h.2.1, h.2.2, hz⟩

theorem appOne {t e : TypeId} {sz bytes : Nat} (E : ElemT t e sz bytes) (hby : bytes ≤ 100) {ops : Array Oper} {rest : List Oper} {o : Oper} {a : Act} {Q : Exit → Act → World → Prop} (hgd : o.guard = none) (s x : Operand)
    (ho : o.op = .call { callee := .builtin .append, args := #[s, x], argTypes := #[t, t] })
    (base : Nat) (v : Value) (n : Nat) (xs news : List Value) (w : World) (hs : a.eval s = v) (hx : a.eval x = .slice (some ⟨w.heap.size, 0, none⟩) 1 1)
    (hown : w.ownsRow base e sz v n xs) (hl : news.length = sz) (h1 : ∀ u ∈ news, u.oneCell' = true) (hn : n ≤ 1000000000) (hbase : base ≤ w.heap.size)
    (h : ∀ v' w', w'.ownsRow base e sz v' (n + 1) (xs ++ news) → (w.alloc (.cells news.toArray e)).grownBy w' v.ownBlock → v' ≠ .slice none 0 0 → wpList Try.prog ops Q rest (a.put o.dst v') w') :
    wpList Try.prog ops Q (o :: rest) a (w.alloc (.cells news.toArray e)) := by
  obtain ⟨i, z, hi, hz, h2, h3, h4⟩ := E.inf
  refine wpList_append_own (P := Try.prog) _ hgd s x t ho base e i z sz bytes E.ul hi hz h2 h3 h4 E.pos v n xs hs (hown.alloc _) ⟨w.heap.size, 0, none⟩ 1 1 news hx (by omega) ?_ h1 ?_ ?_ ?_ ?_
  · intro j u hu
    rw [Addr.add_lit, Nat.zero_add]
    rw [World.cell?_alloc_mark]
    simpa using hu
  · unfold maxLen; omega
  · have : (n + 1) * bytes ≤ 1000000001 * 100 := Nat.mul_le_mul (by omega) hby
    omega
  · simp; omega
  · intro v' w' k1 k2 k3
    exact h v' w' k1 k2 (fun e => by have := (k3.1 e).2; omega)

/-- What a call owns can be read, and written. -/
theorem ownFl {w : World} {base : Nat} {e : TypeId} {sz : Nat} {v : Value} {n : Nat} {cs : List Value} (h : w.ownsRow base e sz v n cs) : FlW (base ≤ ·) w v n cs := by
  obtain ⟨hl, h⟩ := h
  rcases h with ⟨rfl, rfl⟩ | ⟨g, cap, cur, rfl, hb, hg, hnc, hcm, hcs, ht⟩
  · have : cs = [] := List.eq_nil_of_length_eq_zero (by simpa using hl)
    subst this
    exact ⟨none, 0, rfl, ⟨Nat.zero_le _, Nat.le_refl _, fun _ => rfl⟩, fun i hi => absurd hi (Nat.not_lt_zero _)⟩
  · refine ⟨_, cap, rfl, ⟨by omega, hnc, by simp⟩, fun i hi => ⟨g, 0, rfl, hb, ?_, fun o => ?_⟩⟩
    · rw [Nat.zero_add, cell_of_row w g i cur e (0, 0) hg]
      have hi' : i < cur.size := by
        rw [hcs]; rw [hl] at hi; exact Nat.lt_of_lt_of_le hi (Nat.mul_le_mul_right _ hnc)
      simp only [← ht]
      rw [Array.getElem?_eq_getElem hi', List.getElem_take]
      simp
    · simp [World.frozen?, hg]
theorem ownBase {w : World} {base base' : Nat} {e : TypeId} {sz : Nat} {v : Value} {n : Nat} {cs : List Value} (h : w.ownsRow base e sz v n cs) (hb : base' ≤ base) : w.ownsRow base' e sz v n cs := by
  obtain ⟨hl, h⟩ := h
  refine ⟨hl, ?_⟩
  rcases h with h | ⟨g, cap, cur, hv, hb', r⟩
  · exact .inl h
  · exact .inr ⟨g, cap, cur, hv, by omega, r⟩
theorem ownStay {w w' : World} {base : Nat} {e : TypeId} {sz : Nat} {v : Value} {n : Nat} {cs : List Value} (h : w.ownsRow base e sz v n cs) (k : Below w.heap.size w w') : w'.ownsRow base e sz v n cs :=
  h.kept (row := none) (grownBel k) (by cases hv : v.ownBlock <;> simp)
/-- In one new block of its own. -/
def Made (B : Nat) (w' : World) (v : Value) (n : Nat) (cs : List Value) : Prop := ∃ g, B ≤ g ∧ g < w'.heap.size ∧ FlW (· = g) w' v n cs
theorem Made.flw {B : Nat} {w : World} {v : Value} {n : Nat} {cs : List Value} (h : Made B w v n cs) : FlW (B ≤ ·) w v n cs := by
  obtain ⟨g, h1, _, h3⟩ := h
  exact h3.mono (fun b e => by subst e; exact h1)
theorem Made.fl {B : Nat} {w : World} {v : Value} {n : Nat} {cs : List Value} (h : Made B w v n cs) : Fl (B ≤ ·) w v n cs := h.flw.fl
theorem Made.stay {B : Nat} {w w' : World} {v : Value} {n : Nat} {cs : List Value} (h : Made B w v n cs) (k : Below w.heap.size w w') : Made B w' v n cs := by
  obtain ⟨g, h1, h2, h3⟩ := h
  exact ⟨g, h1, Nat.lt_of_lt_of_le h2 k.size, h3.stay (ksB k)⟩
theorem Made.base {B B' : Nat} {w : World} {v : Value} {n : Nat} {cs : List Value} (h : Made B w v n cs) (k : B' ≤ B) : Made B' w v n cs := by
  obtain ⟨g, h1, h2, h3⟩ := h
  exact ⟨g, by omega, h2, h3⟩
theorem ownAt {w : World} {base : Nat} {e : TypeId} {sz g m cap n : Nat} {cs : List Value} (h : w.ownsRow base e sz (.slice (some ⟨g, 0, none⟩) m cap) n cs) : FlW (· = g) w (.slice (some ⟨g, 0, none⟩) m cap) n cs := by
  have h1 := ownFl h
  obtain ⟨a, cap', e, hn, hc⟩ := h1
  cases e
  refine ⟨_, _, rfl, hn, fun i hi => ?_⟩
  obtain ⟨b, off, e, s, c, f⟩ := hc i hi
  cases e
  exact ⟨g, 0, rfl, rfl, c, f⟩
theorem makeFull {t e : TypeId} {sz bytes : Nat} (E : ElemT t e sz bytes) (hby : bytes ≤ 100) {ops : Array Oper} {rest : List Oper} {o : Oper} {a : Act} {Q : Exit → Act → World → Prop} (hgd : o.guard = none) (l c : Operand)
    (ho : o.op = .makeSlice t l c) (n : Nat) (w : World) (hl : a.eval l = .int .i64 n) (hc : a.eval c = .int .i64 n) (hn : n ≤ 1000000000)
    (h : ∀ w' cs, Hid (w'.ownsRow w.heap.size e sz (.slice (some ⟨w.heap.size, 0, none⟩) n n) n cs) → Hid (cs.length = n * sz) → Below w.heap.size w w' → w.heap.size < w'.heap.size →
      (∀ z, (∃ i, Try.prog.info? e = some i ∧ i.zero = some z) → Hid (cs = (madeCells z.cells (n * sz)).toList)) → wpList Try.prog ops Q rest (a.put o.dst (.slice (some ⟨w.heap.size, 0, none⟩) n n)) w') :
    wpList Try.prog ops Q (o :: rest) a w := by
  obtain ⟨i, z, hi, hz, h2, h3, h4⟩ := E.inf
  refine wpList_make_full w hgd l c t ho w.heap.size e i z sz E.ul hi hz h2 .i64 .i64 n n n hl hc rfl rfl ?_ (by unfold maxLen; omega) (Nat.le_refl _) ?_
  · rw [h3]; have := Nat.mul_le_mul hby hn; omega
  · intro w' k1 k2
    have hlt := (World.ownsRow.lt k1 w.heap.size rfl).2
    refine h w' _ k1 k1.1 ⟨k2.os, k2.tape, k2.output, k2.size, fun b hb => k2.block b hb (by simp)⟩ hlt ?_
    rintro z' ⟨i', hi', hz'⟩
    rw [hi] at hi'
    cases hi'
    rw [hz] at hz'
    cases hz'
    rfl

/-- A slice literal of the call's own. -/
theorem ownLit {w : World} {base : Nat} {e : TypeId} {sz n : Nat} (cs : List Value) (hb : base ≤ w.heap.size) (hn : n ≤ 1000000000) (hl : cs.length = n * sz) :
    (w.alloc (.cells cs.toArray e)).ownsRow base e sz (.slice (some ⟨w.heap.size, 0, none⟩) n n) n cs :=
  ⟨hl, .inr ⟨w.heap.size, n, cs.toArray, rfl, hb, heap_alloc_new w _, Nat.le_refl _, by unfold maxLen; omega, by simpa using hl, by rw [← hl]; simp⟩⟩
/-- append(dst, xs...): whatever the source. -/
theorem appMany {S : Nat → Prop} {t e : TypeId} {sz bytes : Nat} (E : ElemT t e sz bytes) (hby : bytes ≤ 100) {ops : Array Oper} {rest : List Oper} {o : Oper} {a : Act} {Q : Exit → Act → World → Prop} (hgd : o.guard = none) (s x : Operand)
    (ho : o.op = .call { callee := .builtin .append, args := #[s, x], argTypes := #[t, t] })
    (base : Nat) (v u : Value) (n m : Nat) (xs news : List Value) (w : World) (hs : a.eval s = v) (hx : a.eval x = u)
    (hown : w.ownsRow base e sz v n xs) (hu : Fl S w u m news) (hl : news.length = m * sz) (h1 : ∀ u ∈ news, u.oneCell' = true) (hn : n + m ≤ 1000000000) (hbase : base ≤ w.heap.size)
    (h : ∀ v' w', Hid (w'.ownsRow base e sz v' (n + m) (xs ++ news)) → w.grownBy w' v.ownBlock → wpList Try.prog ops Q rest (a.put o.dst v') w') :
    wpList Try.prog ops Q (o :: rest) a w := by
  obtain ⟨i, z, hi, hz, h2, h3, h4⟩ := E.inf
  obtain ⟨ad, cap, rfl, hh, hc⟩ := hu
  cases ad with
  | none =>
    have hm : m = 0 := by have := hh.2.2 rfl; have := hh.2.1; omega
    subst hm
    have hcap := hh.2.2 rfl
    subst hcap
    have : news = [] := List.eq_nil_of_length_eq_zero (by simpa using hl)
    subst this
    refine wpList_append_own_none hgd s x t ho base e i sz E.ul hi v n xs hs hown hx ?_
    exact h v w (Lib.hid (by simpa using hown)) (grownRefl _ _)
  | some ad =>
    have hcell : ∀ j u, news[j]? = some u → w.cell? (ad.add j) = some u := by
      intro j u hj
      obtain ⟨hlt, rfl⟩ := List.getElem?_eq_some_iff.1 hj
      obtain ⟨b, off, e, _, c⟩ := hc j hlt
      cases e
      rw [Addr.add_lit]; exact c
    refine wpList_append_own (P := Try.prog) _ hgd s x t ho base e i z sz bytes E.ul hi hz h2 h3 h4 E.pos v n xs hs hown ad m cap news hx hl hcell h1 ?_ ?_ hbase ?_
    · unfold maxLen; omega
    · have : (n + m) * bytes ≤ 1000000000 * 100 := Nat.mul_le_mul hn hby
      omega
    · intro v' w' k1 k2 k3
      exact h v' w' k1 k2

/-- A literal of two elements, a cell each. -/
theorem nestTwo {α : Type} {R : World → Value → α → Prop} {S : Nat → Prop} {w : World} {t : TypeId} {v1 v2 : Value} {x1 x2 : α} {b : Nat} (hb : b = w.heap.size) (hS : S b)
    (h1 : R (w.alloc (.cells #[v1, v2] t)) v1 x1) (h2 : R (w.alloc (.cells #[v1, v2] t)) v2 x2) :
    Nest R S (w.alloc (.cells #[v1, v2] t)) (.slice (some ⟨b, 0, none⟩) 2 2) [x1, x2] := by
  subst hb
  refine ⟨[v1, v2], ⟨_, 2, rfl, ⟨by simp [maxLen], Nat.le_refl _, by simp⟩, fun i hi => ⟨w.heap.size, 0, rfl, hS, ?_⟩⟩, rfl, ?_⟩
  · rw [Nat.zero_add, World.cell?_alloc_mark]
    simp at hi
    rcases (by omega : i = 0 ∨ i = 1) with rfl | rfl <;> rfl
  · intro i hi
    simp at hi
    rcases (by omega : i = 0 ∨ i = 1) with rfl | rfl
    · exact h1
    · exact h2
/-- A slice of rows, each in a block of its own, all writable. -/
def IntSSW (S : Nat → Prop) (w : World) (v : Value) (xss : List (List Int)) : Prop :=
  ∃ (o : Nat) (g : Nat → Nat) (vs : Nat → Value), S o ∧ FlW (· = o) w v xss.length ((List.range xss.length).map vs) ∧
    (∀ i (h : i < xss.length), S (g i) ∧ g i ≠ o ∧ FlW (· = g i) w (vs i) (xss[i]).length ((xss[i]).map (.int .i64 ·))) ∧ ∀ i j, i < j → j < xss.length → g i ≠ g j
theorem IntSSW.rd {S : Nat → Prop} {w : World} {v : Value} {xss : List (List Int)} (h : IntSSW S w v xss) : IntSS S w v xss := by
  obtain ⟨o, g, vs, hS, h1, h2, _⟩ := h
  refine ⟨(List.range xss.length).map vs, h1.fl.mono (fun b e => by subst e; exact hS), by simp, fun i hi => ?_⟩
  obtain ⟨k1, _, k3⟩ := h2 i hi
  have e : ((List.range xss.length).map vs).getD i undef = vs i := by simp [List.getD, hi]
  rw [e]
  exact k3.fl.mono (fun b e => by subst e; exact k1)
theorem IntSSW.mono {S T : Nat → Prop} {w : World} {v : Value} {xss : List (List Int)} (h : IntSSW S w v xss) (k : ∀ b, S b → T b) : IntSSW T w v xss := by
  obtain ⟨o, g, vs, hS, h1, h2, h3⟩ := h
  exact ⟨o, g, vs, k _ hS, h1, fun i hi => ⟨k _ (h2 i hi).1, (h2 i hi).2⟩, h3⟩
theorem IntSSW.stay {S : Nat → Prop} {w w' : World} {v : Value} {xss : List (List Int)} (h : IntSSW S w v xss) (k : Ks S w w') : IntSSW S w' v xss := by
  obtain ⟨o, g, vs, hS, h1, h2, h3⟩ := h
  exact ⟨o, g, vs, hS, h1.stay (k.mono fun b e => by subst e; exact hS), fun i hi => ⟨(h2 i hi).1, (h2 i hi).2.1, (h2 i hi).2.2.stay (k.mono fun b e => by subst e; exact (h2 i hi).1)⟩, h3⟩
/-- An automaton whose memory may be written. -/
def DfaW (S : Nat → Prop) (w : World) (vn ve : Value) (D : DfaD) : Prop :=
  ∃ q, S q ∧ IntSSW (fun b => S b ∧ b ≠ q) w vn D.1 ∧ FlW (· = q) w ve D.2.length (D.2.map .bool)
theorem DfaW.rd {S : Nat → Prop} {w : World} {vn ve : Value} {D : DfaD} (h : DfaW S w vn ve D) : DfaR S w vn ve D := by
  obtain ⟨q, hS, h1, h2⟩ := h
  exact ⟨h1.rd.mono (fun b h => h.1), h2.fl.mono (fun b e => by subst e; exact hS)⟩
theorem DfaW.mono {S T : Nat → Prop} {w : World} {vn ve : Value} {D : DfaD} (h : DfaW S w vn ve D) (k : ∀ b, S b → T b) : DfaW T w vn ve D := by
  obtain ⟨q, hS, h1, h2⟩ := h
  exact ⟨q, k _ hS, h1.mono (fun b h => ⟨k _ h.1, h.2⟩), h2⟩
theorem DfaW.stay {S : Nat → Prop} {w w' : World} {vn ve : Value} {D : DfaD} (h : DfaW S w vn ve D) (k : Ks S w w') : DfaW S w' vn ve D := by
  obtain ⟨q, hS, h1, h2⟩ := h
  exact ⟨q, hS, h1.stay (k.mono fun b h => h.1), h2.stay (k.mono fun b e => by subst e; exact hS)⟩
theorem elInt : ElemT 34 3 1 8 := ElemT.of (z := .int .i64 0) Try.underlying34 (by kernel_rfl) rfl (by decide)
theorem elBool : ElemT 47 4 1 1 := ElemT.of (z := .bool false) Try.underlying47 (by kernel_rfl) rfl (by decide)
theorem elInts : ElemT 46 34 1 24 := ElemT.of (z := .slice none 0 0) Try.underlying46 (by kernel_rfl) rfl (by decide)
theorem elPart : ElemT 23 67 2 16 := ElemT.of (z := .agg #[.int .i64 0, .int .i64 0]) Try.underlying23 (by kernel_rfl) rfl (by decide)
/-- A list of parts that the call made. -/
def OwnP (w : World) (base : Nat) (v : Value) (xs : List (Int × Int)) : Prop := w.ownsRow base 67 2 v xs.length (cells2 xs)
theorem cells2_one (xs : List (Int × Int)) : ∀ u ∈ cells2 xs, u.oneCell' = true := by
  intro u hu
  unfold cells2 at hu
  obtain ⟨p, _, hp⟩ := List.mem_flatMap.1 hu
  simp at hp
  rcases hp with rfl | rfl <;> rfl
theorem cells2_append (xs ys : List (Int × Int)) : cells2 (xs ++ ys) = cells2 xs ++ cells2 ys := by simp [cells2]
theorem OwnP.rd {w : World} {base : Nat} {v : Value} {xs : List (Int × Int)} (h : OwnP w base v xs) : Pairs (base ≤ ·) w v xs := (ownFl h).fl
theorem OwnP.stay {w w' : World} {base : Nat} {v : Value} {xs : List (Int × Int)} (h : OwnP w base v xs) (k : Below w.heap.size w w') : OwnP w' base v xs := ownStay h k
theorem appPart {ops : Array Oper} {rest : List Oper} {o : Oper} {a : Act} {Q : Exit → Act → World → Prop} (hgd : o.guard = none) (s x : Operand)
    (ho : o.op = .call { callee := .builtin .append, args := #[s, x], argTypes := #[23, 23] })
    (base : Nat) (v : Value) (xs : List (Int × Int)) (y1 y2 : Int) (w : World) (hs : a.eval s = v) (hx : a.eval x = .slice (some ⟨w.heap.size, 0, none⟩) 1 1)
    (hown : OwnP w base v xs) (hn : xs.length ≤ 1000000000) (hbase : base ≤ w.heap.size)
    (h : ∀ v' w', Hid (OwnP w' base v' (xs ++ [(y1, y2)])) → w.grownBy w' v.ownBlock → wpList Try.prog ops Q rest (a.put o.dst v') w') :
    wpList Try.prog ops Q (o :: rest) a (w.alloc (.cells #[.int .i64 y1, .int .i64 y2] 67)) :=
  appOne elPart (by decide) hgd s x ho base v _ _ [.int .i64 y1, .int .i64 y2] w hs hx hown rfl (by simp [Value.oneCell']) hn hbase fun v' w' k1 k2 _ =>
    h v' w' (by unfold OwnP; rw [List.length_append, cells2_append]; exact k1) (grownTrans (grownBel ((Below.refl _ _).alloc (Nat.le_refl _) _)) k2)
end Go.Proofs.Ytbcjhiponbfbnaa
namespace Go.Proofs.Ytbcjhiponbfbnaa
open Go.RowKit
set_option maxRecDepth 100000

theorem ownTake {w : World} {base : Nat} {e : TypeId} {sz n m : Nat} {a : Option Addr} {cap : Nat} {cs : List Value} (h : w.ownsRow base e sz (.slice a n cap) n cs) (hm : m ≤ n) :
    w.ownsRow base e sz (.slice a m cap) m (cs.take (m * sz)) := by
  obtain ⟨hl, h⟩ := h
  have hms : m * sz ≤ n * sz := Nat.mul_le_mul_right _ hm
  refine ⟨by rw [List.length_take, hl, Nat.min_eq_left hms], ?_⟩
  rcases h with ⟨h1, h2⟩ | ⟨g, cap', cur, hv, hb, hg, hnc, hcm, hcs, ht⟩
  · cases h1
    obtain rfl : m = 0 := by omega
    exact .inl ⟨rfl, rfl⟩
  · cases hv
    refine .inr ⟨g, cap, cur, rfl, hb, hg, by omega, hcm, hcs, ?_⟩
    rw [← ht, List.take_take, Nat.min_eq_left hms]
theorem ownSet {w : World} {base b o : Nat} {e : TypeId} {sz n : Nat} {v : Value} {cs : List Value} (h : w.ownsRow base e sz v n cs) (hb : b < base) (u : Value) : (w.setCell ⟨b, o, none⟩ u).ownsRow base e sz v n cs :=
  h.kept (row := some b) (grownSet w b o u) (.inr (fun hh => by have := World.ownsRow.lt h _ hh; omega))
/-- A list of ints that the call made. -/
def OwnI (w : World) (base : Nat) (v : Value) (xs : List Int) : Prop := w.ownsRow base 3 1 v xs.length (xs.map (.int .i64 ·))
theorem OwnI.rd {w : World} {base : Nat} {v : Value} {xs : List Int} (h : OwnI w base v xs) : Ints (base ≤ ·) w v xs := (ownFl h).fl
theorem OwnI.stay {w w' : World} {base : Nat} {v : Value} {xs : List Int} (h : OwnI w base v xs) (k : Below w.heap.size w w') : OwnI w' base v xs := ownStay h k
theorem OwnI.shape {w : World} {base : Nat} {v : Value} {xs : List Int} (h : OwnI w base v xs) : ∃ a cap, v = .slice a xs.length cap ∧ xs.length ≤ 9223372036854775807 := (ownFl h).shape
theorem OwnI.nil (w : World) (base : Nat) : OwnI w base (.slice none 0 0) [] := ⟨rfl, .inl ⟨rfl, rfl⟩⟩
theorem OwnI.take {w : World} {base m : Nat} {a : Option Addr} {n cap : Nat} {xs : List Int} (h : OwnI w base (.slice a n cap) xs) (hn : n = xs.length) (hm : m ≤ xs.length) : OwnI w base (.slice a m cap) (xs.take m) := by
  subst hn
  have := ownTake h hm
  unfold OwnI
  rw [List.length_take, Nat.min_eq_left hm, List.map_take]
  simpa using this
theorem appInt {ops : Array Oper} {rest : List Oper} {o : Oper} {a : Act} {Q : Exit → Act → World → Prop} (hgd : o.guard = none) (s x : Operand)
    (ho : o.op = .call { callee := .builtin .append, args := #[s, x], argTypes := #[34, 34] })
    (base : Nat) (v : Value) (xs : List Int) (y : Int) (w : World) (hs : a.eval s = v) (hx : a.eval x = .slice (some ⟨w.heap.size, 0, none⟩) 1 1)
    (hown : OwnI w base v xs) (hn : xs.length ≤ 1000000000) (hbase : base ≤ w.heap.size)
    (h : ∀ v' w', Hid (OwnI w' base v' (xs ++ [y])) → w.grownBy w' v.ownBlock → wpList Try.prog ops Q rest (a.put o.dst v') w') :
    wpList Try.prog ops Q (o :: rest) a (w.alloc (.cells #[.int .i64 y] 3)) :=
  appOne elInt (by decide) hgd s x ho base v _ _ [.int .i64 y] w hs hx hown rfl (by simp [Value.oneCell']) hn hbase fun v' w' k1 k2 _ =>
    h v' w' (by unfold OwnI; rw [List.length_append, List.map_append]; exact k1) (grownTrans (grownBel ((Below.refl _ _).alloc (Nat.le_refl _) _)) k2)
/-- A list of bools that the call made. -/
def OwnB (w : World) (base : Nat) (v : Value) (xs : List Bool) : Prop := w.ownsRow base 4 1 v xs.length (xs.map .bool)
theorem OwnB.rd {w : World} {base : Nat} {v : Value} {xs : List Bool} (h : OwnB w base v xs) : Bools (base ≤ ·) w v xs := (ownFl h).fl
theorem OwnB.stay {w w' : World} {base : Nat} {v : Value} {xs : List Bool} (h : OwnB w base v xs) (k : Below w.heap.size w w') : OwnB w' base v xs := ownStay h k
theorem OwnB.shape {w : World} {base : Nat} {v : Value} {xs : List Bool} (h : OwnB w base v xs) : ∃ a cap, v = .slice a xs.length cap ∧ xs.length ≤ 9223372036854775807 := (ownFl h).shape
theorem OwnB.nil (w : World) (base : Nat) : OwnB w base (.slice none 0 0) [] := ⟨rfl, .inl ⟨rfl, rfl⟩⟩
theorem appBool {ops : Array Oper} {rest : List Oper} {o : Oper} {a : Act} {Q : Exit → Act → World → Prop} (hgd : o.guard = none) (s x : Operand)
    (ho : o.op = .call { callee := .builtin .append, args := #[s, x], argTypes := #[47, 47] })
    (base : Nat) (v : Value) (xs : List Bool) (y : Bool) (w : World) (hs : a.eval s = v) (hx : a.eval x = .slice (some ⟨w.heap.size, 0, none⟩) 1 1)
    (hown : OwnB w base v xs) (hn : xs.length ≤ 1000000000) (hbase : base ≤ w.heap.size)
    (h : ∀ v' w', Hid (OwnB w' base v' (xs ++ [y])) → w.grownBy w' v.ownBlock → wpList Try.prog ops Q rest (a.put o.dst v') w') :
    wpList Try.prog ops Q (o :: rest) a (w.alloc (.cells #[.bool y] 4)) :=
  appOne elBool (by decide) hgd s x ho base v _ _ [.bool y] w hs hx hown rfl (by simp [Value.oneCell']) hn hbase fun v' w' k1 k2 _ =>
    h v' w' (by unfold OwnB; rw [List.length_append, List.map_append]; exact k1) (grownTrans (grownBel ((Below.refl _ _).alloc (Nat.le_refl _) _)) k2)
end Go.Proofs.Ytbcjhiponbfbnaa
namespace Go.Proofs.Ytbcjhiponbfbnaa
open Go.RowKit
set_option maxRecDepth 100000

theorem blkGrow {w w' : World} {row : Option Nat} {b : Nat} {ob : Obj} (hg : w.grownBy w' row) (h : w.heap[b]? = some ob) (hne : some b ≠ row) : w'.heap[b]? = some ob := by
  rw [hg.block b (Array.getElem?_eq_some_iff.1 h).1 hne]; exact h
/-- A list of pairs of numbers that the call made; e is the element's type. -/
def Own2 (w : World) (base : Nat) (e : TypeId) (v : Value) (xs : List (Int × Int)) : Prop := w.ownsRow base e 2 v xs.length (cells2 xs)
theorem Own2.rd {w : World} {base : Nat} {e : TypeId} {v : Value} {xs : List (Int × Int)} (h : Own2 w base e v xs) : Pairs (base ≤ ·) w v xs := (ownFl h).fl
theorem Own2.stay {w w' : World} {base : Nat} {e : TypeId} {v : Value} {xs : List (Int × Int)} (h : Own2 w base e v xs) (k : Below w.heap.size w w') : Own2 w' base e v xs := ownStay h k
theorem Own2.shape {w : World} {base : Nat} {e : TypeId} {v : Value} {xs : List (Int × Int)} (h : Own2 w base e v xs) : ∃ a cap, v = .slice a xs.length cap ∧ xs.length ≤ 9223372036854775807 := (ownFl h).shape
theorem Own2.nil (w : World) (base : Nat) (e : TypeId) : Own2 w base e (.slice none 0 0) [] := ⟨rfl, .inl ⟨rfl, rfl⟩⟩
theorem cells2_one' (xs : List (Int × Int)) : ∀ u ∈ cells2 xs, u.oneCell' = true := by
  intro u hu
  unfold cells2 at hu
  obtain ⟨p, _, hp⟩ := List.mem_flatMap.1 hu
  simp at hp
  rcases hp with rfl | rfl <;> rfl
theorem cells2_app (xs ys : List (Int × Int)) : cells2 (xs ++ ys) = cells2 xs ++ cells2 ys := by simp [cells2]
theorem cells3_app (xs ys : List (Int × Int × Int)) : cells3 (xs ++ ys) = cells3 xs ++ cells3 ys := by simp [cells3]
theorem app2 {t e : TypeId} {bytes : Nat} (E : ElemT t e 2 bytes) (hby : bytes ≤ 100) {ops : Array Oper} {rest : List Oper} {o : Oper} {a : Act} {Q : Exit → Act → World → Prop} (hgd : o.guard = none) (s x : Operand)
    (ho : o.op = .call { callee := .builtin .append, args := #[s, x], argTypes := #[t, t] })
    (base : Nat) (v : Value) (xs : List (Int × Int)) (y1 y2 : Int) (w : World) {B : Nat} (hB : B = w.heap.size) (hs : a.eval s = v) (hx : a.eval x = .slice (some ⟨B, 0, none⟩) 1 1)
    (hown : Own2 w base e v xs) (hn : xs.length ≤ 1000000000) (hbase : base ≤ w.heap.size)
    (h : ∀ v' w', Hid (Own2 w' base e v' (xs ++ [(y1, y2)])) → w.grownBy w' v.ownBlock → wpList Try.prog ops Q rest (a.put o.dst v') w') :
    wpList Try.prog ops Q (o :: rest) a (w.alloc (.cells #[.int .i64 y1, .int .i64 y2] e)) :=
  appOne E hby hgd s x ho base v _ _ [.int .i64 y1, .int .i64 y2] w hs (by rw [hx, hB]) hown rfl (by simp [Value.oneCell']) hn hbase fun v' w' k1 k2 _ =>
    h v' w' (by unfold Own2; rw [List.length_append, cells2_app]; exact k1) (grownTrans (grownBel ((Below.refl _ _).alloc (Nat.le_refl _) _)) k2)
/-- A list of triples of numbers that the call made. -/
def Own3 (w : World) (base : Nat) (e : TypeId) (v : Value) (xs : List (Int × Int × Int)) : Prop := w.ownsRow base e 3 v xs.length (cells3 xs)
theorem Own3.rd {w : World} {base : Nat} {e : TypeId} {v : Value} {xs : List (Int × Int × Int)} (h : Own3 w base e v xs) : Trips (base ≤ ·) w v xs := (ownFl h).fl
theorem Own3.stay {w w' : World} {base : Nat} {e : TypeId} {v : Value} {xs : List (Int × Int × Int)} (h : Own3 w base e v xs) (k : Below w.heap.size w w') : Own3 w' base e v xs := ownStay h k
theorem Own3.shape {w : World} {base : Nat} {e : TypeId} {v : Value} {xs : List (Int × Int × Int)} (h : Own3 w base e v xs) : ∃ a cap, v = .slice a xs.length cap ∧ xs.length ≤ 9223372036854775807 := (ownFl h).shape
theorem Own3.nil (w : World) (base : Nat) (e : TypeId) : Own3 w base e (.slice none 0 0) [] := ⟨rfl, .inl ⟨rfl, rfl⟩⟩
theorem app3 {t e : TypeId} {bytes : Nat} (E : ElemT t e 3 bytes) (hby : bytes ≤ 100) {ops : Array Oper} {rest : List Oper} {o : Oper} {a : Act} {Q : Exit → Act → World → Prop} (hgd : o.guard = none) (s x : Operand)
    (ho : o.op = .call { callee := .builtin .append, args := #[s, x], argTypes := #[t, t] })
    (base : Nat) (v : Value) (xs : List (Int × Int × Int)) (y1 y2 y3 : Int) (w : World) {B : Nat} (hB : B = w.heap.size) (hs : a.eval s = v) (hx : a.eval x = .slice (some ⟨B, 0, none⟩) 1 1)
    (hown : Own3 w base e v xs) (hn : xs.length ≤ 1000000000) (hbase : base ≤ w.heap.size)
    (h : ∀ v' w', Hid (Own3 w' base e v' (xs ++ [(y1, y2, y3)])) → w.grownBy w' v.ownBlock → wpList Try.prog ops Q rest (a.put o.dst v') w') :
    wpList Try.prog ops Q (o :: rest) a (w.alloc (.cells #[.int .i64 y1, .int .i64 y2, .int .i64 y3] e)) :=
  appOne E hby hgd s x ho base v _ _ [.int .i64 y1, .int .i64 y2, .int .i64 y3] w hs (by rw [hx, hB]) hown rfl (by simp [Value.oneCell']) hn hbase fun v' w' k1 k2 _ =>
    h v' w' (by unfold Own3; rw [List.length_append, cells3_app]; exact k1) (grownTrans (grownBel ((Below.refl _ _).alloc (Nat.le_refl _) _)) k2)
theorem elMove : ElemT 33 40 3 24 := ElemT.of (z := .agg #[.int .i64 0, .int .i64 0, .int .i64 0]) Try.underlying33 (by kernel_rfl) rfl (by decide)
end Go.Proofs.Ytbcjhiponbfbnaa
namespace Go.Proofs.Ytbcjhiponbfbnaa
open Go.RowKit
def RO (w : World) (v : Value) (e : Ending) (w' : World) : Prop := e = .returned v ∧ Below w.heap.size w w'
end Go.Proofs.Ytbcjhiponbfbnaa
namespace Go.Proofs.Ytbcjhiponbfbnaa
section
variable {S : Type} [DecidableEq S] (nx : S → Nat → S) (en : S → Bool) (s0 : S)
/-- The next states by the first c letters are met. -/
def visN (M : List S) (s : S) : Nat → List S
  | 0 => M
  | c + 1 => vis (visN M s c) (nx s c)
theorem visN_three (M : List S) (s : S) : visN nx M s 3 = vis3 nx M s := rfl
theorem visN_pre (M : List S) (s : S) {c d : Nat} (h : c ≤ d) : visN nx M s c <+: visN nx M s d := by
  induction d with
  | zero => obtain rfl : c = 0 := by omega
            exact List.prefix_rfl
  | succ d ih =>
    rcases Nat.lt_or_ge c (d + 1) with h1 | h1
    · exact (ih (by omega)).trans (vis_pre _ _)
    · obtain rfl : c = d + 1 := by omega
      exact List.prefix_rfl
theorem visN_nodup {M : List S} (s : S) (h : M.Nodup) (c : Nat) : (visN nx M s c).Nodup := by
  induction c with
  | zero => exact h
  | succ c ih => exact vis_nodup ih
theorem visN_mem (M : List S) (s : S) (c : Nat) : nx s c ∈ visN nx M s (c + 1) := mem_vis.2 (.inr rfl)
theorem visN_all {P : S → Prop} {M : List S} {s : S} (hM : ∀ x ∈ M, P x) (hs : ∀ c, c < 3 → P (nx s c)) {c : Nat} (hc : c ≤ 3) : ∀ x ∈ visN nx M s c, P x := by
  induction c with
  | zero => exact hM
  | succ c ih =>
    intro x hx
    rcases mem_vis.1 hx with h | rfl
    · exact ih (by omega) x h
    · exact hs c (by omega)
theorem vis_old {M : List S} {t : S} (h : t ∈ M) : vis M t = M := if_pos h
theorem vis_new {M : List S} {t : S} (h : t ∉ M) : vis M t = M ++ [t] := if_neg h
theorem idx_pre {M M' : List S} (h : M <+: M') {t : S} (hm : t ∈ M) : M'.idxOf t = M.idxOf t := by
  obtain ⟨r, rfl⟩ := h
  rw [List.idxOf_append, if_pos hm]
theorem idx_new {M : List S} {t : S} (h : t ∉ M) : (M ++ [t]).idxOf t = M.length := by
  rw [List.idxOf_append, if_neg h]
  simp
/-- The row of the state that round i looks at. -/
def rowF (M : List S) (s : S) (c : Nat) : Int := ((vis3 nx M s).idxOf (nx s c) : Nat)
theorem rowF_eq (M : List S) (s : S) {c : Nat} (hc : c < 3) : rowF nx M s c = ((visN nx M s (c + 1)).idxOf (nx s c) : Nat) := by
  unfold rowF
  rw [← visN_three, idx_pre (visN_pre nx M s (show c + 1 ≤ 3 by omega)) (visN_mem nx M s c)]
def rowX (i : Nat) : List Int := match (rnd nx s0 i)[i]? with | some s => [rowF nx (rnd nx s0 i) s 0, rowF nx (rnd nx s0 i) s 1, rowF nx (rnd nx s0 i) s 2] | none => []
def rowsX (k : Nat) : List (List Int) := (List.range k).map (rowX nx s0)
def endX (i : Nat) : Bool := match (rnd nx s0 i)[i]? with | some s => en s | none => false
def endsX (k : Nat) : List Bool := (List.range k).map (endX nx en s0)
theorem rowsX_succ (k : Nat) : rowsX nx s0 (k + 1) = rowsX nx s0 k ++ [rowX nx s0 k] := by simp [rowsX, List.range_succ]
theorem endsX_succ (k : Nat) : endsX nx en s0 (k + 1) = endsX nx en s0 k ++ [endX nx en s0 k] := by simp [endsX, List.range_succ]
theorem rowsX_len (k : Nat) : (rowsX nx s0 k).length = k := by simp [rowsX]
theorem endsX_len (k : Nat) : (endsX nx en s0 k).length = k := by simp [endsX]
theorem rowX_at {i : Nat} (h : i < (rnd nx s0 i).length) : rowX nx s0 i = (List.range 3).map (rowF nx (rnd nx s0 i) (rnd nx s0 i)[i]) := by
  unfold rowX
  rw [List.getElem?_eq_getElem h]
  rfl
theorem endX_at {i : Nat} (h : i < (rnd nx s0 i).length) : endX nx en s0 i = en (rnd nx s0 i)[i] := by
  unfold endX
  rw [List.getElem?_eq_getElem h]
/-- The automaton that is built. -/
theorem explored_all {k : Nat} (h : (rnd nx s0 k).length = k) : autD nx en (rnd nx s0 k) = (rowsX nx s0 k, endsX nx en s0 k) := by
  have at_ : ∀ i, (hi : i < k) → ∃ h1 : i < (rnd nx s0 i).length, (rnd nx s0 k)[i]'(by omega) = (rnd nx s0 i)[i] := by
    intro i hi
    have hp := rnd_pre nx s0 (show i ≤ k by omega)
    rcases Nat.lt_or_ge i (rnd nx s0 i).length with h1 | h1
    · refine ⟨h1, ?_⟩
      obtain ⟨t, ht⟩ := hp
      simp only [← ht]
      rw [List.getElem_append_left h1]
    · have := rnd_done nx h1 (show i ≤ k by omega)
      rw [this] at h
      omega
  unfold autD rowsX endsX
  congr 1
  · apply List.ext_getElem
    · simp [h]
    · intro i h1 h2
      simp only [List.length_map, h] at h1
      obtain ⟨h3, h4⟩ := at_ i h1
      simp only [List.getElem_map, List.getElem_range, h4]
      rw [rowX_at nx s0 h3]
      have hp := rnd_pre nx s0 (show i + 1 ≤ k by omega)
      rw [rnd_succ_some nx h3] at hp
      have e : ∀ c, c < 3 → ((rnd nx s0 k).idxOf (nx (rnd nx s0 i)[i] c) : Nat) = rowF nx (rnd nx s0 i) (rnd nx s0 i)[i] c := by
        intro c hc
        unfold rowF
        rw [idx_pre hp]
        rw [mem_vis3]
        have : c = 0 ∨ c = 1 ∨ c = 2 := by omega
        rcases this with rfl | rfl | rfl <;> simp
      rw [e 0 (by omega), e 1 (by omega), e 2 (by omega)]
      rfl
  · apply List.ext_getElem
    · simp [h]
    · intro i h1 h2
      simp only [List.length_map, h] at h1
      obtain ⟨h3, h4⟩ := at_ i h1
      simp only [List.getElem_map, List.getElem_range, h4]
      rw [endX_at nx en s0 h3]
end
end Go.Proofs.Ytbcjhiponbfbnaa
namespace Go.Proofs.Ytbcjhiponbfbnaa
/-- Some word of at most k letters leads to an end. -/
def ld (D : DfaD) (k s : Nat) : Prop := ∃ w : List (Fin 3), w.length ≤ k ∧ lg (dn D) (de D) s w = true
/-- Some word leads to an end. -/
def lead (D : DfaD) (s : Nat) : Prop := ∃ w : List (Fin 3), lg (dn D) (de D) s w = true
theorem ld_zero {D : DfaD} {s : Nat} : ld D 0 s ↔ de D s = true := by
  constructor
  · rintro ⟨w, h1, h2⟩
    have : w = [] := List.eq_nil_of_length_eq_zero (by omega)
    subst this
    exact h2
  · intro h
    exact ⟨[], by simp, h⟩
theorem ld_mono {D : DfaD} {j k s : Nat} (h : j ≤ k) : ld D j s → ld D k s := fun ⟨w, h1, h2⟩ => ⟨w, by omega, h2⟩
theorem ld_succ {D : DfaD} {k s : Nat} : ld D (k + 1) s ↔ ld D k s ∨ ∃ c, c < 3 ∧ ld D k (dn D s c) := by
  constructor
  · rintro ⟨w, h1, h2⟩
    cases w with
    | nil => exact .inl ⟨[], by simp, h2⟩
    | cons c w => exact .inr ⟨c.val, c.isLt, w, by simpa using h1, h2⟩
  · rintro (h | ⟨c, hc, w, h1, h2⟩)
    · exact ld_mono (by omega) h
    · exact ⟨⟨c, hc⟩ :: w, by simp; omega, h2⟩
theorem ld_lead {D : DfaD} {k s : Nat} (h : ld D k s) : lead D s := let ⟨w, _, h⟩ := h; ⟨w, h⟩
theorem lead_ld {D : DfaD} {s : Nat} (h : lead D s) : ∃ k, ld D k s := let ⟨w, h⟩ := h; ⟨w.length, w, Nat.le_refl _, h⟩
theorem lead_dn {D : DfaD} {s c : Nat} (hc : c < 3) (h : lead D (dn D s c)) : lead D s := let ⟨w, h⟩ := h; ⟨⟨c, hc⟩ :: w, h⟩
section
open Classical
theorem ld_stable {D : DfaD} (hD : okD D) {k : Nat} (h : ∀ s, s < D.1.length → ld D (k + 1) s → ld D k s) : ∀ j s, s < D.1.length → ld D (k + j) s → ld D k s
  | 0, _, _, h' => h'
  | j + 1, s, hs, h' => by
    rcases (ld_succ (k := k + j)).1 h' with h1 | ⟨c, hc, h1⟩
    · exact ld_stable hD h j s hs h1
    · exact h s hs (ld_succ.2 (.inr ⟨c, hc, ld_stable hD h j _ (dn_lt hD hs hc) h1⟩))
noncomputable def ldc (D : DfaD) (k : Nat) : Nat := (List.range D.1.length).countP (fun s => decide (ld D k s))
theorem ldc_lt {D : DfaD} {k : Nat} (h : ¬ ∀ s, s < D.1.length → ld D (k + 1) s → ld D k s) : ldc D k < ldc D (k + 1) := by
  refine countP_lt (fun x _ hx => decide_eq_true (ld_mono (by omega) (of_decide_eq_true hx))) ?_
  have : ∃ s, s < D.1.length ∧ ld D (k + 1) s ∧ ¬ ld D k s := by
    refine Classical.byContradiction fun hn => h fun s hs h1 => Classical.byContradiction fun h2 => hn ⟨s, hs, h1, h2⟩
  obtain ⟨s, h1, h2, h3⟩ := this
  exact ⟨s, List.mem_range.2 h1, decide_eq_true h2, decide_eq_false h3⟩
theorem ldc_le (D : DfaD) (k : Nat) : ldc D k ≤ D.1.length := by
  have := List.countP_le_length (p := fun s => decide (ld D k s)) (l := List.range D.1.length)
  simpa [ldc] using this
theorem lead_all {D : DfaD} (hD : okD D) {s : Nat} (hs : s < D.1.length) (h : lead D s) : ld D D.1.length s := by
  by_cases hst : ∃ k, k ≤ D.1.length ∧ ∀ s, s < D.1.length → ld D (k + 1) s → ld D k s
  · obtain ⟨k, hk, h1⟩ := hst
    obtain ⟨j, hj⟩ := lead_ld h
    exact ld_mono hk (ld_stable hD h1 j s hs (ld_mono (by omega) hj))
  · have key : ∀ k, k ≤ D.1.length + 1 → k ≤ ldc D k := by
      intro k
      induction k with
      | zero => intro _; omega
      | succ k ih =>
        intro hk
        have h1 := ih (by omega)
        have h2 := ldc_lt (D := D) (k := k) (fun h => hst ⟨k, by omega, h⟩)
        omega
    have h1 := key _ (Nat.le_refl _)
    have h2 := ldc_le D (D.1.length + 1)
    omega
/-- The mark of a leading state. -/
noncomputable def leadB (D : DfaD) (s : Nat) : Bool := decide (lead D s)
theorem leadB_iff {D : DfaD} {s : Nat} : leadB D s = true ↔ lead D s := decide_eq_true_iff
end
/-- One value turned. -/
def upd (o : Nat → Bool) (k : Nat) (b : Bool) (s : Nat) : Bool := if s = k then b else o s
theorem upd_same (o : Nat → Bool) (k : Nat) (b : Bool) : upd o k b k = b := if_pos rfl
theorem upd_ne (o : Nat → Bool) {k s : Nat} (b : Bool) (h : s ≠ k) : upd o k b s = o s := if_neg h
theorem upd_or {o : Nat → Bool} {k t : Nat} {b : Bool} (h : o t = true) : upd o k (o k || b) t = true := by
  by_cases e : t = k
  · subst e; rw [upd_same, h]; rfl
  · rw [upd_ne _ _ e]; exact h
/-- The program's rounds. -/
def LI (D : DfaD) (r s c : Nat) (o : Nat → Bool) : Prop :=
  (∀ t, t < D.1.length → o t = true → lead D t) ∧ (∀ t, t < D.1.length → ld D r t → o t = true) ∧ (∀ t, t < s → ld D (r + 1) t → o t = true) ∧ ∀ l, l < c → ld D r (dn D s l) → o s = true
theorem LI_start {D : DfaD} : LI D 0 0 0 (de D) :=
  ⟨fun t _ h => ⟨[], h⟩, fun t _ h => ld_zero.1 h, fun t h => absurd h (Nat.not_lt_zero _), fun l h => absurd h (Nat.not_lt_zero _)⟩
theorem LI_step {D : DfaD} (hD : okD D) {r s c : Nat} {o : Nat → Bool} (hs : s < D.1.length) (hc : c < 3) (h : LI D r s c o) : LI D r s (c + 1) (upd o s (o s || o (dn D s c))) := by
  obtain ⟨h1, h2, h3, h4⟩ := h
  refine ⟨fun t ht e => ?_, fun t ht e => upd_or (h2 t ht e), fun t ht e => upd_or (h3 t ht e), fun l hl e => ?_⟩
  · by_cases ets : t = s
    · subst ets
      rw [upd_same] at e
      rcases Bool.or_eq_true_iff.1 e with e | e
      · exact h1 t ht e
      · exact lead_dn hc (h1 _ (dn_lt hD ht hc) e)
    · rw [upd_ne _ _ ets] at e; exact h1 t ht e
  · rw [upd_same]
    rcases Nat.lt_succ_iff_lt_or_eq.1 hl with hl | rfl
    · rw [h4 l hl e]; rfl
    · rw [h2 _ (dn_lt hD hs hc) e, Bool.or_true]
theorem LI_row {D : DfaD} {r s : Nat} {o : Nat → Bool} (hs : s < D.1.length) (h : LI D r s 3 o) : LI D r (s + 1) 0 o := by
  obtain ⟨h1, h2, h3, h4⟩ := h
  refine ⟨h1, h2, fun t ht e => ?_, fun l h => absurd h (Nat.not_lt_zero _)⟩
  rcases Nat.lt_succ_iff_lt_or_eq.1 ht with ht | rfl
  · exact h3 t ht e
  · rcases ld_succ.1 e with e | ⟨c, hc, e⟩
    · exact h2 _ hs e
    · exact h4 c hc e
theorem LI_round {D : DfaD} {r : Nat} {o : Nat → Bool} (h : LI D r D.1.length 0 o) : LI D (r + 1) 0 0 o :=
  ⟨h.1, fun t ht e => h.2.2.1 t ht e, fun t h => absurd h (Nat.not_lt_zero _), fun l h => absurd h (Nat.not_lt_zero _)⟩
theorem LI_end {D : DfaD} (hD : okD D) {o : Nat → Bool} (h : LI D D.1.length 0 0 o) : ∀ s, s < D.1.length → o s = leadB D s := fun s hs => by
  rw [Bool.eq_iff_iff, leadB_iff]
  exact ⟨h.1 s hs, fun e => h.2.1 s hs (lead_all hD hs e)⟩
/-- The reference's rounds. -/
def UI (D : DfaD) (o0 : Nat → Bool) (k c : Nat) (ch : Bool) (o : Nat → Bool) : Prop :=
  (∀ t, t < D.1.length → o t = true → lead D t) ∧ (∀ t, t < D.1.length → de D t = true → o t = true) ∧ (∀ t, o0 t = true → o t = true) ∧
    (ch = true → ∃ t, t < D.1.length ∧ o t = true ∧ o0 t = false) ∧ (ch = false → (∀ t, t < k → ∀ l, l < 3 → o (dn D t l) = true → o t = true) ∧ ∀ l, l < c → o (dn D k l) = true → o k = true)
theorem UI_start {D : DfaD} {o : Nat → Bool} (h1 : ∀ t, t < D.1.length → o t = true → lead D t) (h2 : ∀ t, t < D.1.length → de D t = true → o t = true) : UI D o 0 0 false o :=
  ⟨h1, h2, fun _ h => h, nofun, fun _ => ⟨fun t h => absurd h (Nat.not_lt_zero _), fun l h => absurd h (Nat.not_lt_zero _)⟩⟩
theorem UI_no {D : DfaD} {o0 o : Nat → Bool} {k c : Nat} {ch : Bool} (h : UI D o0 k c ch o) (hn : o (dn D k c) = false) : UI D o0 k (c + 1) ch o := by
  obtain ⟨h1, h2, h3, h4, h5⟩ := h
  refine ⟨h1, h2, h3, h4, fun e => ⟨(h5 e).1, fun l hl e' => ?_⟩⟩
  rcases Nat.lt_succ_iff_lt_or_eq.1 hl with hl | rfl
  · exact (h5 e).2 l hl e'
  · rw [hn] at e'; cases e'
theorem UI_yes {D : DfaD} {o0 o : Nat → Bool} {k c : Nat} {ch : Bool} (hD : okD D) (hk : k < D.1.length) (hc : c < 3) (h : UI D o0 k c ch o) (hn : o k = false) (hy : o (dn D k c) = true) : UI D o0 k (c + 1) true (upd o k true) := by
  obtain ⟨h1, h2, h3, h4, h5⟩ := h
  have up : ∀ t, o t = true → upd o k true t = true := fun t e => by
    by_cases et : t = k
    · subst et; exact upd_same _ _ _
    · rw [upd_ne _ _ et]; exact e
  refine ⟨fun t ht e => ?_, fun t ht e => up t (h2 t ht e), fun t e => up t (h3 t e), fun _ => ?_, nofun⟩
  · by_cases et : t = k
    · subst et; exact lead_dn hc (h1 _ (dn_lt hD hk hc) hy)
    · rw [upd_ne _ _ et] at e; exact h1 t ht e
  · refine ⟨k, hk, upd_same _ _ _, ?_⟩
    cases h0 : o0 k with
    | false => rfl
    | true => have := h3 k h0; rw [hn] at this; cases this
theorem UI_row {D : DfaD} {o0 o : Nat → Bool} {k c : Nat} {ch : Bool} (h : UI D o0 k c ch o) (hc : c = 3 ∨ o k = true) : UI D o0 (k + 1) 0 ch o := by
  obtain ⟨h1, h2, h3, h4, h5⟩ := h
  refine ⟨h1, h2, h3, h4, fun e => ⟨fun t ht l hl e' => ?_, fun l h => absurd h (Nat.not_lt_zero _)⟩⟩
  rcases Nat.lt_succ_iff_lt_or_eq.1 ht with ht | rfl
  · exact (h5 e).1 t ht l hl e'
  · rcases hc with rfl | hc
    · exact (h5 e).2 l hl e'
    · exact hc
theorem UI_end {D : DfaD} {o0 o : Nat → Bool} (hD : okD D) (h : UI D o0 D.1.length 0 false o) : ∀ s, s < D.1.length → o s = leadB D s := by
  obtain ⟨h1, h2, _, _, h5⟩ := h
  have key : ∀ (w : List (Fin 3)) s, s < D.1.length → lg (dn D) (de D) s w = true → o s = true := by
    intro w
    induction w with
    | nil => intro s hs e; exact h2 s hs e
    | cons c w ih => intro s hs e; exact (h5 rfl).1 s hs c.val c.isLt (ih _ (dn_lt hD hs c.isLt) e)
  intro s hs
  rw [Bool.eq_iff_iff, leadB_iff]
  exact ⟨h1 s hs, fun ⟨w, e⟩ => key w s hs e⟩
/-- How many states are marked. -/
def cntB (n : Nat) (o : Nat → Bool) : Nat := (List.range n).countP o
theorem cntB_le (n : Nat) (o : Nat → Bool) : cntB n o ≤ n := by
  have := List.countP_le_length (p := o) (l := List.range n)
  simpa [cntB] using this
theorem UI_cnt {D : DfaD} {o0 o : Nat → Bool} {k c : Nat} (h : UI D o0 k c true o) : cntB D.1.length o0 < cntB D.1.length o := by
  obtain ⟨_, _, h3, h4, _⟩ := h
  obtain ⟨t, h5, h6, h7⟩ := h4 rfl
  exact countP_lt (fun x _ hx => h3 x hx) ⟨t, List.mem_range.2 h5, h6, h7⟩
/-- The automaton with the leading states as ends. -/
noncomputable def ledD (D : DfaD) : DfaD := (D.1, (List.range D.1.length).map (leadB D))
theorem led_ok {D : DfaD} (h : okD D) : okD (ledD D) := ⟨h.1, by simp [ledD], h.2.2⟩
/-- The automaton of the other words. -/
def othD (D : DfaD) : DfaD := (D.1, D.2.map (!·))
theorem oth_ok {D : DfaD} (h : okD D) : okD (othD D) := ⟨h.1, by simp [othD]; exact h.2.1, h.2.2⟩
end Go.Proofs.Ytbcjhiponbfbnaa
namespace Go.Proofs.Ytbcjhiponbfbnaa
/-- The word with the number n. -/
def wd : Nat → List (Fin 3)
  | 0 => []
  | n + 1 => wd (n / 3) ++ [Fin.ofNat 3 n]
termination_by n => n
decreasing_by omega
/-- The number of a word. -/
def key (w : List (Fin 3)) : Nat := w.foldl (fun n c => 3 * n + c.val + 1) 0
theorem key_snoc (w : List (Fin 3)) (c : Fin 3) : key (w ++ [c]) = 3 * key w + c.val + 1 := by simp [key, List.foldl_append]
theorem wd_zero : wd 0 = [] := by rw [wd]
theorem wd_succ (n : Nat) (c : Fin 3) : wd (3 * n + c.val + 1) = wd n ++ [c] := by
  rw [wd]
  have h1 : (3 * n + c.val) / 3 = n := by omega
  have h2 : Fin.ofNat 3 (3 * n + c.val) = c := by apply Fin.ext; simp only [Fin.ofNat]; omega
  rw [h1, h2]
theorem snocCases {p : List (Fin 3) → Prop} (h0 : p []) (h1 : ∀ w c, p w → p (w ++ [c])) (w : List (Fin 3)) : p w := by
  have key : ∀ n (w : List (Fin 3)), w.length = n → p w := by
    intro n
    induction n with
    | zero => intro w hw; have := List.eq_nil_of_length_eq_zero hw; subst this; exact h0
    | succ n ih =>
      intro w hw
      have hne : w ≠ [] := by intro e; subst e; simp at hw
      rw [← List.dropLast_concat_getLast hne]
      exact h1 _ _ (ih _ (by simp; omega))
  exact key _ w rfl
theorem wd_key (w : List (Fin 3)) : wd (key w) = w := by
  refine snocCases (p := fun w => wd (key w) = w) wd_zero (fun w c h => ?_) w
  rw [key_snoc, wd_succ, h]
theorem nat3 (n : Nat) : ∃ m, ∃ c : Fin 3, n + 1 = 3 * m + c.val + 1 ∧ m < n + 1 := ⟨n / 3, ⟨n % 3, by omega⟩, by simp only; omega, by omega⟩
theorem key_wd (n : Nat) : key (wd n) = n := by
  induction n using Nat.strongRecOn with
  | ind n ih =>
    cases n with
    | zero => rw [wd_zero]; rfl
    | succ n =>
      obtain ⟨m, c, e, hm⟩ := nat3 n
      rw [e, wd_succ, key_snoc, ih m hm]
/-- One letter. -/
def lt (c : Nat) : ByteArray := ⟨#[UInt8.ofNat (97 + c)]⟩
/-- The text of the word with the number n. -/
def wS : Nat → ByteArray
  | 0 => ByteArray.empty
  | n + 1 => wS (n / 3) ++ lt (n % 3)
termination_by n => n
decreasing_by omega
theorem wS_zero : wS 0 = ByteArray.empty := by rw [wS]
theorem wS_succ (n c : Nat) (hc : c < 3) : wS (3 * n + c + 1) = wS n ++ lt c := by
  rw [wS]
  have h1 : (3 * n + c) / 3 = n := by omega
  have h2 : (3 * n + c) % 3 = c := by omega
  rw [h1, h2]
section
variable {S : Type} [DecidableEq S] (nx : S → Nat → S) (en : S → Bool) (s0 : S)
/-- Where a word leads. -/
def go (s : S) (w : List (Fin 3)) : S := w.foldl (fun s c => nx s c.val) s
omit [DecidableEq S] in
theorem go_snoc (s : S) (w : List (Fin 3)) (c : Fin 3) : go nx s (w ++ [c]) = nx (go nx s w) c.val := by simp [go, List.foldl_append]
omit [DecidableEq S] in
theorem lg_go (w : List (Fin 3)) : ∀ s, lg nx en s w = en (go nx s w) := by
  induction w with
  | nil => intro s; rfl
  | cons c w ih => intro s; exact ih _
/-- The number of the first word that leads to t. -/
noncomputable def fk (t : S) : Nat := lst (fun n => go nx s0 (wd n) = t)
omit [DecidableEq S] in
theorem fk_le {n : Nat} {t : S} (h : go nx s0 (wd n) = t) : fk nx s0 t ≤ n := (lst_spec (p := fun n => go nx s0 (wd n) = t) h).1
omit [DecidableEq S] in
theorem fk_go {n : Nat} {t : S} (h : go nx s0 (wd n) = t) : go nx s0 (wd (fk nx s0 t)) = t := (lst_spec (p := fun n => go nx s0 (wd n) = t) h).2.1
omit [DecidableEq S] in
theorem fk_zero : fk nx s0 s0 = 0 := Nat.le_zero.1 (fk_le nx s0 (n := 0) (by rw [wd_zero]; rfl))
omit [DecidableEq S] in
theorem fk_next {s : S} {n : Nat} (h : go nx s0 (wd n) = s) (c : Nat) (hc : c < 3) : go nx s0 (wd (3 * n + c + 1)) = nx s c := by
  have := wd_succ n ⟨c, hc⟩
  simp only at this
  rw [this, go_snoc, h]
/-- Ascending by first words. -/
def Asc (M : List S) : Prop := M.Pairwise (fun a b => fk nx s0 a < fk nx s0 b)
/-- All of M can be reached. -/
def Rch (M : List S) : Prop := ∀ x ∈ M, go nx s0 (wd (fk nx s0 x)) = x
omit [DecidableEq S] in
theorem Asc.lt {M : List S} (h : Asc nx s0 M) {i j : Nat} (hi : i < M.length) (hj : j < M.length) (hij : fk nx s0 M[i] < fk nx s0 M[j]) : i < j := by
  rcases Nat.lt_trichotomy i j with h1 | h1 | h1
  · exact h1
  · subst h1; omega
  · have := List.pairwise_iff_getElem.1 h j i hj hi h1
    omega
theorem fk_low {k : Nat} (ha : Asc nx s0 (rnd nx s0 k)) (hk : k < (rnd nx s0 k).length) :
    ∀ n, n < fk nx s0 (rnd nx s0 k)[k] → ∃ j, ∃ h : j < (rnd nx s0 k).length, j < k ∧ (rnd nx s0 k)[j] = go nx s0 (wd n) := by
  intro n
  induction n using Nat.strongRecOn with
  | ind n ih =>
    intro hn
    cases n with
    | zero =>
      have hz := rnd_zero nx s0 k
      rw [List.getElem?_eq_getElem (rnd_pos nx s0 k)] at hz
      injection hz with hz
      refine ⟨0, rnd_pos nx s0 k, ?_, by rw [hz, wd_zero]; rfl⟩
      rcases Nat.eq_zero_or_pos k with h0 | h0
      · subst h0
        rw [hz, fk_zero] at hn
        omega
      · exact h0
    | succ n =>
      obtain ⟨m, c, e, hm⟩ := nat3 n
      obtain ⟨j, hj, hjk, hg⟩ := ih m hm (by omega)
      have hnx := rnd_next nx hjk hj
      have hmem : nx (rnd nx s0 k)[j] c.val ∈ rnd nx s0 k := by
        have : c.val = 0 ∨ c.val = 1 ∨ c.val = 2 := by omega
        rcases this with h | h | h <;> rw [h]
        · exact hnx.1
        · exact hnx.2.1
        · exact hnx.2.2
      obtain ⟨i, hi, hie⟩ := List.getElem_of_mem hmem
      have hgo : go nx s0 (wd (n + 1)) = (rnd nx s0 k)[i] := by rw [e, wd_succ, go_snoc, ← hg, hie]
      refine ⟨i, hi, ?_, hgo.symm⟩
      exact ha.lt nx s0 hi hk (Nat.lt_of_le_of_lt (fk_le nx s0 hgo) hn)
theorem fk_fresh {k c : Nat} (ha : Asc nx s0 (rnd nx s0 k)) (hr : Rch nx s0 (rnd nx s0 k)) (hk : k < (rnd nx s0 k).length) (hc : c < 3) (hf : nx (rnd nx s0 k)[k] c ∉ visN nx (rnd nx s0 k) (rnd nx s0 k)[k] c) :
    fk nx s0 (nx (rnd nx s0 k)[k] c) = 3 * fk nx s0 (rnd nx s0 k)[k] + c + 1 := by
  have hgk := hr _ (List.getElem_mem hk)
  have hg := fk_next nx s0 hgk c hc
  have hle := fk_le nx s0 hg
  refine Nat.le_antisymm hle (Nat.le_of_not_lt fun hlt => hf ?_)
  have hgt := fk_go nx s0 hg
  generalize fk nx s0 (nx (rnd nx s0 k)[k] c) = n at *
  have hpre : rnd nx s0 k <+: visN nx (rnd nx s0 k) (rnd nx s0 k)[k] c := visN_pre nx _ _ (Nat.zero_le c)
  cases n with
  | zero =>
    rw [wd_zero] at hgt
    rw [← hgt]
    refine hpre.subset ?_
    have hz := rnd_zero nx s0 k
    exact List.mem_of_getElem? hz
  | succ n =>
    obtain ⟨m, d, e, hm⟩ := nat3 n
    rw [e, wd_succ, go_snoc] at hgt
    rcases Nat.lt_or_ge m (fk nx s0 (rnd nx s0 k)[k]) with h1 | h1
    · obtain ⟨j, hj, hjk, hg'⟩ := fk_low nx s0 ha hk m h1
      have hnx := rnd_next nx hjk hj
      rw [← hgt, ← hg']
      refine hpre.subset ?_
      have : d.val = 0 ∨ d.val = 1 ∨ d.val = 2 := by omega
      rcases this with h | h | h <;> rw [h]
      · exact hnx.1
      · exact hnx.2.1
      · exact hnx.2.2
    · have hme : m = fk nx s0 (rnd nx s0 k)[k] := by omega
      rw [hme, hgk] at hgt
      have hdc : d.val < c := by omega
      rw [← hgt]
      exact (visN_pre nx _ _ (show d.val + 1 ≤ c by omega)).subset (visN_mem nx _ _ _)
theorem vis_asc {k : Nat} (ha : Asc nx s0 (rnd nx s0 k)) (hr : Rch nx s0 (rnd nx s0 k)) (hk : k < (rnd nx s0 k).length) (hb : ∀ x ∈ rnd nx s0 k, fk nx s0 x ≤ 3 * fk nx s0 (rnd nx s0 k)[k]) :
    ∀ c, c ≤ 3 → Asc nx s0 (visN nx (rnd nx s0 k) (rnd nx s0 k)[k] c) ∧ Rch nx s0 (visN nx (rnd nx s0 k) (rnd nx s0 k)[k] c) ∧ ∀ x ∈ visN nx (rnd nx s0 k) (rnd nx s0 k)[k] c, fk nx s0 x ≤ 3 * fk nx s0 (rnd nx s0 k)[k] + c := by
  intro c
  induction c with
  | zero => intro _; exact ⟨ha, hr, fun x hx => by have := hb x hx; omega⟩
  | succ c ih =>
    intro hc
    obtain ⟨h1, h2, h3⟩ := ih (by omega)
    show Asc nx s0 (vis _ _) ∧ Rch nx s0 (vis _ _) ∧ ∀ x ∈ vis _ _, _
    by_cases hm : nx (rnd nx s0 k)[k] c ∈ visN nx (rnd nx s0 k) (rnd nx s0 k)[k] c
    · rw [vis_old hm]
      exact ⟨h1, h2, fun x hx => by have := h3 x hx; omega⟩
    · rw [vis_new hm]
      have hf := fk_fresh nx s0 ha hr hk (by omega) hm
      refine ⟨?_, ?_, ?_⟩
      · unfold Asc
        rw [List.pairwise_append]
        refine ⟨h1, by simp, fun a hma b hmb => ?_⟩
        simp at hmb
        subst hmb
        have := h3 a hma
        rw [hf]; omega
      · intro x hx
        rcases List.mem_append.1 hx with hx | hx
        · exact h2 x hx
        · simp at hx; subst hx
          exact fk_go nx s0 (fk_next nx s0 (hr _ (List.getElem_mem hk)) c (by omega))
      · intro x hx
        rcases List.mem_append.1 hx with hx | hx
        · have := h3 x hx; omega
        · simp at hx; subst hx
          rw [hf]; omega
theorem rnd_asc (k : Nat) : Asc nx s0 (rnd nx s0 k) ∧ Rch nx s0 (rnd nx s0 k) ∧ ∀ i (hi : i < (rnd nx s0 k).length), k ≤ i → ∀ x ∈ rnd nx s0 k, fk nx s0 x ≤ 3 * fk nx s0 (rnd nx s0 k)[i] := by
  induction k with
  | zero =>
    refine ⟨List.pairwise_singleton _ _, fun x hx => ?_, fun i hi _ x hx => ?_⟩
    · simp [rnd] at hx; subst hx; rw [fk_zero, wd_zero]; rfl
    · simp [rnd] at hx; subst hx; rw [fk_zero]; omega
  | succ k ih =>
    obtain ⟨h1, h2, h3⟩ := ih
    rcases Nat.lt_or_ge k (rnd nx s0 k).length with hk | hk
    · obtain ⟨g1, g2, g3⟩ := vis_asc nx s0 h1 h2 hk (h3 k hk (Nat.le_refl _)) 3 (Nat.le_refl _)
      rw [visN_three, ← rnd_succ_some nx hk] at g1 g2 g3
      refine ⟨g1, g2, fun i hi hki x hx => ?_⟩
      have hx3 := g3 x hx
      have hp := rnd_pre nx s0 (show k ≤ k + 1 by omega)
      have hk' : k < (rnd nx s0 (k + 1)).length := by omega
      have e : (rnd nx s0 (k + 1))[k] = (rnd nx s0 k)[k] := by
        obtain ⟨t, ht⟩ := hp
        simp only [← ht]
        rw [List.getElem_append_left hk]
      have hlt := List.pairwise_iff_getElem.1 g1 k i hk' hi (by omega)
      rw [e] at hlt
      omega
    · rw [rnd_succ_none nx hk]
      exact ⟨h1, h2, fun i hi hki => by omega⟩
/-- What the search of round k, letter c has: ascending, reached, and the new one's number. -/
theorem fk_new {k c : Nat} (hk : k < (rnd nx s0 k).length) (hc : c < 3) (hf : nx (rnd nx s0 k)[k] c ∉ visN nx (rnd nx s0 k) (rnd nx s0 k)[k] c) :
    wS (fk nx s0 (nx (rnd nx s0 k)[k] c)) = wS (fk nx s0 (rnd nx s0 k)[k]) ++ lt c := by
  obtain ⟨h1, h2, _⟩ := rnd_asc nx s0 k
  rw [fk_fresh nx s0 h1 h2 hk hc hf, wS_succ _ _ hc]
end
section
variable {S : Type} [DecidableEq S] (nx : S → Nat → S) (s0 : S)
theorem vis_size {k : Nat} (hk : k < (rnd nx s0 k).length) (hb : ∀ x ∈ rnd nx s0 k, (wS (fk nx s0 x)).size ≤ (rnd nx s0 k).length) :
    ∀ c, c ≤ 3 → ∀ x ∈ visN nx (rnd nx s0 k) (rnd nx s0 k)[k] c, (wS (fk nx s0 x)).size ≤ (visN nx (rnd nx s0 k) (rnd nx s0 k)[k] c).length := by
  intro c
  induction c with
  | zero => intro _; exact hb
  | succ c ih =>
    intro hc
    have ih' := ih (by omega)
    show ∀ x ∈ vis _ _, _ ≤ (vis _ _).length
    by_cases hm : nx (rnd nx s0 k)[k] c ∈ visN nx (rnd nx s0 k) (rnd nx s0 k)[k] c
    · rw [vis_old hm]; exact ih'
    · rw [vis_new hm]
      intro x hx
      rw [List.length_append, List.length_singleton]
      rcases List.mem_append.1 hx with hx | hx
      · have := ih' x hx; omega
      · simp at hx; subst hx
        rw [fk_new nx s0 hk (by omega) hm, ByteArray.size_append]
        have h1 := ih' _ ((visN_pre nx _ _ (Nat.zero_le c)).subset (List.getElem_mem hk))
        have h2 : (lt c).size = 1 := rfl
        omega
theorem fk_size (k : Nat) : ∀ x ∈ rnd nx s0 k, (wS (fk nx s0 x)).size ≤ (rnd nx s0 k).length := by
  induction k with
  | zero => intro x hx; simp [rnd] at hx; subst hx; rw [fk_zero, wS_zero]; exact Nat.zero_le _
  | succ k ih =>
    rcases Nat.lt_or_ge k (rnd nx s0 k).length with hk | hk
    · rw [rnd_succ_some nx hk, ← visN_three]; exact vis_size nx s0 hk ih 3 (Nat.le_refl _)
    · rw [rnd_succ_none nx hk]; exact ih
end
/-- A language has a word. -/
def hasW (L : Lg) : Prop := ∃ w, L w = true
open Classical in
/-- The text of the first word. -/
noncomputable def fstW (L : Lg) : ByteArray := if hasW L then wS (lst (fun n => L (wd n) = true)) else ByteArray.empty
theorem fstW_no {L : Lg} (h : ¬ hasW L) : fstW L = ByteArray.empty := if_neg h
section
variable {S : Type} [DecidableEq S] (nx : S → Nat → S) (en : S → Bool) (s0 : S)
/-- The search stops at round k. -/
theorem fst_yes {k : Nat} (hk : k < (rnd nx s0 k).length) (hno : ∀ j (h : j < (rnd nx s0 k).length), j < k → en (rnd nx s0 k)[j] = false) (hy : en (rnd nx s0 k)[k] = true) :
    hasW (lg nx en s0) ∧ fstW (lg nx en s0) = wS (fk nx s0 (rnd nx s0 k)[k]) := by
  obtain ⟨h1, h2, _⟩ := rnd_asc nx s0 k
  have hg := h2 _ (List.getElem_mem hk)
  have hw : lg nx en s0 (wd (fk nx s0 (rnd nx s0 k)[k])) = true := by rw [lg_go, hg]; exact hy
  refine ⟨⟨_, hw⟩, ?_⟩
  unfold fstW
  rw [if_pos ⟨_, hw⟩]
  congr 1
  refine lst_eq hw fun n hn => ?_
  obtain ⟨j, hj, hjk, he⟩ := fk_low nx s0 h1 hk n hn
  rw [lg_go, ← he, hno j hj hjk]
  simp
/-- The search finds nothing. -/
theorem fst_no {k : Nat} (hk : (rnd nx s0 k).length ≤ k) (hno : ∀ j (h : j < (rnd nx s0 k).length), en (rnd nx s0 k)[j] = false) : ¬ hasW (lg nx en s0) := by
  have hall : ∀ w, go nx s0 w ∈ rnd nx s0 k := by
    intro w
    refine snocCases (p := fun w => go nx s0 w ∈ rnd nx s0 k) ?_ (fun w c h => ?_) w
    · exact List.mem_of_getElem? (rnd_zero nx s0 k)
    · rw [go_snoc]
      have h1 := rnd_closed nx hk _ h
      have : c.val = 0 ∨ c.val = 1 ∨ c.val = 2 := by omega
      rcases this with h2 | h2 | h2 <;> rw [h2]
      · exact h1.1
      · exact h1.2.1
      · exact h1.2.2
  rintro ⟨w, hw⟩
  rw [lg_go] at hw
  obtain ⟨j, hj, he⟩ := List.getElem_of_mem (hall w)
  rw [← he, hno j hj] at hw
  cases hw
end
end Go.Proofs.Ytbcjhiponbfbnaa
