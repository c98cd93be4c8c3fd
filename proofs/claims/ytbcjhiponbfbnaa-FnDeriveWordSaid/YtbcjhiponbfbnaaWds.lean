/- The words by their numbers: the reference's WordAt for numbers of at most 400; all short words have one. -/
import Derived.Test.YtbcjhiponbfbnaaAcc
import Derived.Test.YtbcjhiponbfbnaaGE
set_option linter.unusedSimpArgs false
set_option linter.unusedVariables false
set_option linter.unusedSectionVars false
namespace Go.Proofs.Ytbcjhiponbfbnaa
open Go.RowKit
set_option maxRecDepth 100000
/-- The letters of the word with a number (fuel first). -/
def wdF : Nat → Nat → List Int
  | 0, _ => []
  | f + 1, n => if n = 0 then [] else wdF f ((n - 1) / 3) ++ [(((n - 1) % 3 : Nat) : Int)]
def wdN (n : Nat) : List Int := wdF 9 n
def wB : Nat → Nat
  | 0 => 400
  | k + 1 => (wB k - 1) / 3
theorem wdF_step (f n : Nat) (h : n ≠ 0) : wdF (f + 1) n = wdF f ((n - 1) / 3) ++ [(((n - 1) % 3 : Nat) : Int)] := by
  show (if n = 0 then _ else _) = _
  rw [if_neg h]
/-- How many words have at most so many letters. -/
def nW : Nat → Nat
  | 0 => 1
  | k + 1 => 3 * nW k + 1
theorem wdF_len (f : Nat) : ∀ L n : Nat, L < f → (n < nW L ↔ (wdF f n).length ≤ L) := by
  induction f with
  | zero => intro L n h; omega
  | succ f ih =>
    intro L n hL
    by_cases hn : n = 0
    · subst hn
      have h1 : 0 < nW L := by cases L <;> simp [nW]
      exact ⟨fun _ => by simp [wdF], fun _ => h1⟩
    · rw [wdF_step f n hn, List.length_append, List.length_singleton]
      cases L with
      | zero => simp [nW]; omega
      | succ L =>
        have := ih L ((n - 1) / 3) (by omega)
        rw [Nat.add_le_add_iff_right, ← this]
        simp only [nW]; omega
/-- Every short word has a number. -/
theorem wdF_all (w : List Int) : (∀ c ∈ w, 0 ≤ c ∧ c ≤ 2) → ∀ f, w.length ≤ f → ∃ n, wdF f n = w := by
  refine revInd (P := fun w => (∀ c ∈ w, 0 ≤ c ∧ c ≤ 2) → ∀ f, w.length ≤ f → ∃ n, wdF f n = w) ?_ ?_ w
  · intro _ f _
    refine ⟨0, ?_⟩
    cases f <;> rfl
  · intro w c ih h f hf
    rw [List.length_append, List.length_singleton] at hf
    obtain ⟨f, rfl⟩ : ∃ g, f = g + 1 := ⟨f - 1, by omega⟩
    obtain ⟨n, hn⟩ := ih (fun d hd => h d (by simp [hd])) f (by omega)
    have hc := h c (by simp)
    refine ⟨3 * n + c.toNat + 1, ?_⟩
    rw [wdF_step _ _ (by omega), show (3 * n + c.toNat + 1 - 1) / 3 = n by omega, hn, show (3 * n + c.toNat + 1 - 1) % 3 = c.toNat by omega, show ((c.toNat : Nat) : Int) = c by omega]
theorem wdF_let (f : Nat) : ∀ n, ∀ c ∈ wdF f n, 0 ≤ c ∧ c ≤ 2 := by
  induction f with
  | zero => intro n c h; cases h
  | succ f ih =>
    intro n c h
    by_cases hn : n = 0
    · subst hn; simp [wdF] at h
    · rw [wdF_step f n hn] at h
      rcases List.mem_append.1 h with h | h
      · exact ih _ c h
      · simp at h; omega
theorem ltrs_one (c : UInt8) (s : ByteArray) : ltrs (⟨#[c]⟩ ++ s) = ((c.toNat : Int) - 97) :: ltrs s := by
  unfold ltrs
  rw [ByteArray.data_append, Array.toList_append]
  simp
theorem letS_one {c : UInt8} (h : letB c) {s : ByteArray} (hs : letS s) : letS (⟨#[c]⟩ ++ s) := by
  intro i hi
  by_cases h1 : i < (⟨#[c]⟩ : ByteArray).size
  · rw [ByteArray.getElem_append_left h1]
    have : i = 0 := by have h2 : i < 1 := h1; omega
    subst this
    exact h
  · rw [ByteArray.getElem_append_right (by omega)]
    exact hs _ _
set_option maxHeartbeats 1600000 in
theorem sWordAt_c (n : Nat) (hn : n ≤ 400) (w : World) : Calls Try.prog 77 #[.int .i64 n] w (fun e w' => ∃ s : ByteArray, e = .returned (.tuple #[.string s, .bool true]) ∧ Below w.heap.size w w' ∧ Hid (ltrs s = wdN n) ∧ Hid (letS s) ∧ s.size ≤ 6) := by
  obtain ⟨L, hL⟩ : ∃ L, L = wdN n := ⟨_, rfl⟩
  have HL := Lib.hid hL
  rw [← hL]
  clear hL
  go_enter Try.func77, Try.ntmps77
  go_wp2
  go_loopw [0, 4, 5] (fun x st i wr => ∃ (k m : Nat) (s : ByteArray), k ≤ 6 ∧ m ≤ wB k ∧ x = .int .i64 m ∧ st = .string s ∧ i = .int .i64 k ∧ s.size = k ∧ Hid (letS s) ∧ Hid (L = wdF (9 - k) m ++ ltrs s) ∧ Hid (Below w.heap.size w wr)) (fun x _ _ _ => (intOf x).toNat)
  case atStart => exact ⟨0, n, ByteArray.empty, by omega, hn, rfl, rfl, rfl, rfl, Lib.hid (fun j hj => absurd hj (Nat.not_lt_zero _)), Lib.hid (by rw [HL.out]; unfold wdN ltrs; simp), Lib.hid (Below.refl _ _)⟩
  case round =>
    obtain ⟨k, m, s, hk, hm, rfl, rfl, rfl, hsz, hls, hL, hB⟩ := hrel
    have hk8 : (k : Int) ≤ 8 := by omega
    by_cases hm0 : 0 < m
    · have hk6 : k ≠ 6 := by rintro rfl; have h6 : wB 6 = 0 := by decide
                             omega
      have hm1 : (m - 1) / 3 ≤ wB (k + 1) := by show _ ≤ (wB k - 1) / 3; omega
      have hmB : m ≤ 400 := by
        have : ∀ k, wB k ≤ 400 := fun k => by induction k with | zero => exact Nat.le_refl _ | succ k ih => show (wB k - 1) / 3 ≤ 400; omega
        exact Nat.le_trans hm (this k)
      have hmI : (0 : Int) < (m : Int) := by omega
      obtain ⟨r, hr⟩ : ∃ r, r = (m - 1) % 3 := ⟨_, rfl⟩
      obtain ⟨q, hq⟩ : ∃ q, q = (m - 1) / 3 := ⟨_, rfl⟩
      have hr3 : r < 3 := by omega
      have hmod : ((m : Int) - 1).tmod 3 = (r : Int) := by rw [hr, show ((m : Int) - 1) = ((m - 1 : Nat) : Int) by omega]; rfl
      have hdiv : ((m : Int) - 1).tdiv 3 = (q : Int) := by rw [hq, show ((m : Int) - 1) = ((m - 1 : Nat) : Int) by omega]; rfl
      have hw0 : IntKind.i64.wrap ((m : Int) - 1) = (m : Int) - 1 := IntWalk.i64_in _ (by omega)
      obtain ⟨c, hc⟩ : ∃ c : UInt8, c = UInt8.ofNat (97 + r) := ⟨_, rfl⟩
      have hcn : c.toNat = 97 + r := by rw [hc, UInt8.toNat_ofNat']; omega
      have hLn : Hid (L = wdF (9 - (k + 1)) q ++ ltrs (⟨#[c]⟩ ++ s)) := Lib.hid (by
        rw [hL.out, show 9 - k = (9 - (k + 1)) + 1 by omega, wdF_step _ _ (by omega), ltrs_one, hcn, List.append_assoc, ← hr, ← hq]
        congr 2
        simp
        omega)
      have hlc : letB c := by unfold letB; rw [hcn]; omega
      have hls2 : Hid (letS (⟨#[c]⟩ ++ s)) := Lib.hid (letS_one hlc hls.out)
      have hb := byteStr wr ((97 : Int) + (r : Int)) c (by rw [hcn]; omega)
      have hcc : ¬ (9223372036854775807 < (⟨#[c]⟩ : ByteArray).size + s.size) := by show ¬ (9223372036854775807 < 1 + s.size); omega
      have hcs : (⟨#[c]⟩ ++ s : ByteArray).size = k + 1 := by rw [ByteArray.size_append]; show 1 + s.size = k + 1; omega
      have HCS := Lib.hid hcs
      have hqm : q < m := by omega
      rw [← hq] at hm1
      clear hlc hL hls hc hcn hcs hm hr hq
      go_wp2_with fail
      go_roundw
      case rel => exact ⟨k + 1, q, _, by omega, hm1, rfl, rfl, by go_num, HCS.out, hls2, hLn, Lib.hid (hB.out.trans (((Below.refl _ _).alloc (Nat.le_refl _) _).mono hB.out.size))⟩
      case measure => simp [intOf]; omega
    · obtain rfl : m = 0 := by omega
      have hLL : Hid (ltrs s = L) := Lib.hid (by rw [hL.out]; cases (9 - k) <;> rfl)
      have hsm : s.size ≤ maxLen := by unfold maxLen; omega
      have hsv : letS s ∧ s.size ≤ 8 := ⟨hls.out, by omega⟩
      have HSV := Lib.hid hsv
      clear hL hsv
      rw [show ((0 : Nat) : Int) = (0 : Int) from rfl]
      go_wp2_with fail
      refine (sWordValid_c s wr hsm).mono ?_
      rintro e w2 ⟨b, rfl, rfl, hv⟩
      obtain rfl : b = true := hv.out.2 HSV.out
      clear hv
      go_wp2
      refine bodyPost_ret (results_tmp2 rfl _ _ _) rfl ?_
      exact ⟨s, rfl, hB.out, hLL, hls, by omega⟩
end Go.Proofs.Ytbcjhiponbfbnaa
