/- Simplified operations: the program's. An expression is read in blocks of parts. -/
import Derived.Deep.RegionHeld3
import Derived.Test.YtbcjhiponbfbnaaDer
import Derived.Test.YtbcjhiponbfbnaaOpd
import Derived.Test.YtbcjhiponbfbnaaWex
set_option linter.unusedSimpArgs false
set_option linter.unusedVariables false
set_option linter.unusedSectionVars false
namespace Go.Proofs.Ytbcjhiponbfbnaa
open Go.RowKit
set_option maxRecDepth 100000
variable {S T : Nat → Prop}
/-- A block of parts. -/
def PT (w : World) (b : Nat) : Prop := ∃ cs fz, w.heap[b]? = some (.cells cs 67 fz)
theorem PT.stay {w w' : World} {b : Nat} (h : PT w b) (k : Below w.heap.size w w') : PT w' b := let ⟨cs, fz, e⟩ := h; ⟨cs, fz, blkBel k e⟩
/-- Parts in blocks of parts. -/
def PL0 (w : World) (v : Value) (xs : List (Int × Int)) : Prop := Pairs (PT w) w v xs
theorem PL0.stay {w w' : World} {v : Value} {xs : List (Int × Int)} (h : PL0 w v xs) (k : Below w.heap.size w w') : PL0 w' v xs := (Pairs.stay h (kpB k)).mono fun _ hb => hb.stay k
theorem PL0.any {w : World} {v : Value} {xs : List (Int × Int)} (h : PL0 w v xs) : Pairs (fun _ => True) w v xs := Pairs.mono h fun _ _ => trivial
/-- A whole expression. -/
def PR (w : World) (v : Value) (t : Re) : Prop := t.wf ∧ PL0 w v t.flat
theorem PR.stay {w w' : World} {v : Value} {t : Re} (h : PR w v t) (k : Below w.heap.size w w') : PR w' v t := ⟨h.1, h.2.stay k⟩
theorem PR.any {w : World} {v : Value} {t : Re} (h : PR w v t) : Pairs (fun _ => True) w v t.flat := h.2.any
theorem PR.shape {w : World} {v : Value} {t : Re} (h : PR w v t) : ∃ a cap, v = .slice a t.flat.length cap ∧ t.flat.length ≤ 9223372036854775807 := Pairs.shape h.2
theorem OwnP.pl0 {w : World} {base : Nat} {v : Value} {xs : List (Int × Int)} (h : OwnP w base v xs) : PL0 w v xs := by
  obtain ⟨a, cap, e, hn, hc⟩ := (ownFl h).fl
  refine ⟨a, cap, e, hn, fun i hi => ?_⟩
  obtain ⟨b, off, e', s, c⟩ := hc i hi
  refine ⟨b, off, e', ?_, c⟩
  rcases h.2 with ⟨h1, h2⟩ | ⟨g, c2, cur, h1, hb, hh, _⟩
  · rw [h1] at e; injection e with e1 e2 e3; rw [← e1] at e'; cases e'
  · rw [h1] at e; injection e with e1 e2 e3; rw [← e1] at e'; cases e'; exact ⟨_, _, hh⟩
theorem OwnP.pr {w : World} {base : Nat} {v : Value} {t : Re} (h : OwnP w base v t.flat) (ht : t.wf) : PR w v t := ⟨ht, h.pl0⟩
/-- A front part. -/
theorem PL0.front {w : World} {a : Option Addr} {n cap : Nat} {xs ys : List (Int × Int)} (h : PL0 w (.slice a n cap) (xs ++ ys)) : PL0 w (.slice a xs.length cap) xs := by
  obtain ⟨a', cap', e, hn, hc⟩ := h
  cases e
  rw [List.length_append] at hn
  refine ⟨_, _, rfl, ⟨by omega, by omega, hn.2.2⟩, fun i hi => ?_⟩
  have h2 : (cells2 (xs ++ ys)) = cells2 xs ++ cells2 ys := by simp [cells2]
  obtain ⟨b, off, e', s, c⟩ := hc i (by rw [h2, List.length_append]; omega)
  refine ⟨b, off, e', s, ?_⟩
  rw [c]; congr 1
  simp only [h2]
  rw [List.getElem_append_left hi]
/-- The last part, and what stands before it. -/
def Re.top : Re → Int
  | .none => 1
  | .empty => 2
  | .letter _ => 3
  | .join _ _ => 4
  | .either _ _ => 5
  | .both _ _ => 6
  | .not _ => 7
  | .star _ => 8
def Re.arg : Re → Int
  | .letter c => c
  | _ => 0
def Re.ini : Re → List (Int × Int)
  | .join a b => a.flat ++ b.flat
  | .either a b => a.flat ++ b.flat
  | .both a b => a.flat ++ b.flat
  | .not a => a.flat
  | .star a => a.flat
  | _ => []
theorem flat_top (t : Re) : t.flat = t.ini ++ [(t.top, t.arg)] := by cases t <;> rfl
theorem isNone_iff (t : Re) : (t.flat.length = 1 ∧ (t.flat.getD 0 (0, 0)).1 = 1) ↔ t = .none := by
  cases t with
  | join a b => have h1 := a.flat_pos; have h2 := len_join a b; unfold Re.len at h2; exact ⟨fun h => absurd h.1 (by omega), nofun⟩
  | either a b => have h1 := a.flat_pos; have h2 := len_either a b; unfold Re.len at h2; exact ⟨fun h => absurd h.1 (by omega), nofun⟩
  | both a b => have h1 := a.flat_pos; have h2 := len_both a b; unfold Re.len at h2; exact ⟨fun h => absurd h.1 (by omega), nofun⟩
  | not a => have h1 := a.flat_pos; have h2 := len_not a; unfold Re.len at h2; exact ⟨fun h => absurd h.1 (by omega), nofun⟩
  | star a => have h1 := a.flat_pos; have h2 := len_star a; unfold Re.len at h2; exact ⟨fun h => absurd h.1 (by omega), nofun⟩
  | _ => simp [Re.flat]
theorem isEmpty_iff (t : Re) : (t.flat.length = 1 ∧ (t.flat.getD 0 (0, 0)).1 = 2) ↔ t = .empty := by
  cases t with
  | join a b => have h1 := a.flat_pos; have h2 := len_join a b; unfold Re.len at h2; exact ⟨fun h => absurd h.1 (by omega), nofun⟩
  | either a b => have h1 := a.flat_pos; have h2 := len_either a b; unfold Re.len at h2; exact ⟨fun h => absurd h.1 (by omega), nofun⟩
  | both a b => have h1 := a.flat_pos; have h2 := len_both a b; unfold Re.len at h2; exact ⟨fun h => absurd h.1 (by omega), nofun⟩
  | not a => have h1 := a.flat_pos; have h2 := len_not a; unfold Re.len at h2; exact ⟨fun h => absurd h.1 (by omega), nofun⟩
  | star a => have h1 := a.flat_pos; have h2 := len_star a; unfold Re.len at h2; exact ⟨fun h => absurd h.1 (by omega), nofun⟩
  | _ => simp [Re.flat]
theorem isKind_c (v : Value) (e : List (Int × Int)) (k : Int) (w : World) (h : Pairs S w v e) : Calls Try.prog 147 #[v, .int .i64 k] w (RB w (e.length = 1 ∧ (e.getD 0 (0, 0)).1 = k)) := by
  obtain ⟨a, cap, rfl, hn⟩ := h.shape
  by_cases h1 : e.length = 1
  · obtain ⟨⟨x, y⟩, rfl⟩ := List.length_eq_one_iff.1 h1
    obtain ⟨b, off, rfl, k0, _⟩ := h.at (k := 0) (by simp)
    simp only [List.length_singleton, List.getElem_cons_zero, Nat.zero_mul, Nat.add_zero] at k0 ⊢
    clear h h1 hn
    go_enter Try.func147, Try.ntmps147
    go_wp2
    go_ret
    exact RB.mk (by simp)
  · have hI : ((e.length : Int) == 1) = false := by simp; omega
    have H1 := Lib.hid h1; clear h1 h
    go_enter Try.func147, Try.ntmps147
    go_wp2
    go_ret
    exact RB.mk ⟨nofun, fun h => absurd h.1 H1.out⟩
theorem isNone_c (v : Value) (t : Re) (w : World) (h : PR w v t) : Calls Try.prog 147 #[v, .int .i64 1] w (RB w (t = .none)) := (isKind_c v _ 1 w h.2).mono fun _ _ h => h.imp (isNone_iff t)
theorem isEmpty_c (v : Value) (t : Re) (w : World) (h : PR w v t) : Calls Try.prog 147 #[v, .int .i64 2] w (RB w (t = .empty)) := (isKind_c v _ 2 w h.2).mono fun _ _ h => h.imp (isEmpty_iff t)
theorem ends_c (v : Value) (t : Re) (k : Int) (w : World) (h : PR w v t) (hl : t.flat.length ≤ 1000000) : Calls Try.prog 148 #[v, .int .i64 k] w (RB w (t.top = k)) := by
  obtain ⟨a, cap, rfl, hn⟩ := h.shape
  have hp := h.2
  have hl2 : t.flat.length = t.ini.length + 1 := by rw [flat_top]; simp
  rw [hl2] at hp hl ⊢
  obtain ⟨b, off, rfl, k0, k9⟩ := Pairs.at hp (k := t.ini.length) (by omega)
  have e0 : t.flat[t.ini.length]'(by omega) = (t.top, t.arg) := by
    have : t.flat[t.ini.length]? = some (t.top, t.arg) := by rw [flat_top]; simp
    rw [List.getElem?_eq_getElem (by omega)] at this; exact Option.some.inj this
  rw [e0] at k0
  simp only at k0
  clear h hp e0 k9 hl2 hn
  obtain ⟨m, hm⟩ : ∃ m, m = t.ini.length := ⟨_, rfl⟩
  rw [← hm] at k0 hl ⊢
  clear hm
  obtain ⟨x, hx⟩ : ∃ x, x = t.top := ⟨_, rfl⟩
  rw [← hx] at k0 ⊢
  clear hx
  have hI : IntKind.i64.wrap ((m + 1 : Nat) - 1 : Int) = (m : Int) := by rw [show (((m + 1 : Nat) : Int) - 1) = (m : Int) by omega]; exact IntWalk.i64_in _ (by omega)
  have hlt : (m : Int) < (m : Int) + 1 := by omega
  go_enter Try.func148, Try.ntmps148
  go_wp2
  go_ret
  exact RB.mk (by simp)
set_option maxHeartbeats 800000 in
theorem equalPart_c (v u : Value) (xs ys : List (Int × Int)) (w : World) (hv : Pairs S w v xs) (hu : Pairs T w u ys) : Calls Try.prog 149 #[v, u] w (RBn w (xs = ys)) := by
  obtain ⟨a, ca, rfl, hn⟩ := hv.shape
  obtain ⟨b, cb, rfl, hn2⟩ := hu.shape
  by_cases hl : xs.length ≠ ys.length
  · have hne : ((xs.length : Int) != (ys.length : Int)) = true := by simp; omega
    have HL := Lib.hid hl; clear hl hv hu
    go_enter Try.func149, Try.ntmps149
    go_wp2
    go_ret
    exact RBn.mk (Below.refl _ _) ⟨nofun, fun h => absurd (congrArg List.length h) HL.out⟩
  have hl := Decidable.not_not.1 hl
  rw [← hl] at hu ⊢
  have HL := Lib.hid hl; clear hl
  have HV := Lib.hid hv; clear hv
  have HU := Lib.hid hu; clear hu
  have hne : ((xs.length : Int) != (xs.length : Int)) = false := by simp
  go_enter Try.func149, Try.ntmps149
  go_wp2
  go_loopw [13] (fun i wr => ∃ k : Nat, k ≤ xs.length ∧ i = .int .i64 k ∧ (∃ q, wr = w.drewN q) ∧ Hid (xs.take k = ys.take k)) (fun i _ => xs.length - (intOf i).toNat)
  case atStart => exact ⟨0, by omega, rfl, ⟨0, rfl⟩, by simp [Hid]⟩
  case round =>
    obtain ⟨k, hk, rfl, ⟨q, rfl⟩, Ht⟩ := hrel
    by_cases hlt : k < xs.length
    · have hlt2 : k < ys.length := by rw [← HL.out]; exact hlt
      obtain ⟨ba, oa, rfl, hca, hca2⟩ := HV.out.at hlt
      obtain ⟨bb, ob, rfl, hcb, hcb2⟩ := HU.out.at hlt2
      have h1 := Lib.hid (List.take_succ_eq_append_getElem hlt)
      have h2 := Lib.hid (List.take_succ_eq_append_getElem hlt2)
      have h3 : Hid (xs[k] ≠ ys[k] → xs ≠ ys) := fun hne he => hne (by subst he; rfl)
      obtain ⟨⟨x, x2⟩, hx⟩ : ∃ x, x = xs[k] := ⟨_, rfl⟩
      obtain ⟨⟨y, y2⟩, hy⟩ : ∃ y, y = ys[k] := ⟨_, rfl⟩
      rw [← hx] at hca hca2 h1 h3
      rw [← hy] at hcb hcb2 h2 h3
      clear hx hy
      simp only at hca hca2 hcb hcb2
      by_cases hxy : x = y ∧ x2 = y2
      · obtain ⟨rfl, rfl⟩ := hxy
        go_wp2_with fail
        go_quiet (fail)
        go_wp2
        go_roundw
        case rel => exact ⟨k + 1, by omega, by go_num, ⟨_, rfl⟩, by rw [h1.out, h2.out, Ht.out]; exact Lib.hid rfl⟩
        case measure => simp [intOf]; omega
      · have Hxy := Lib.hid hxy
        by_cases hx1 : x = y
        · have hx2 : (x2 == y2) = false := by simp; exact fun h => hxy ⟨hx1, h⟩
          have hx2n : ¬ x2 = y2 := fun h => hxy ⟨hx1, h⟩
          subst hx1
          clear hxy
          go_wp2_with fail
          go_quiet (fail)
          go_wp2
          go_ret
          exact RBn.mk (belDrewN (belReflN _ _ _) _) ⟨nofun, fun he => (h3.out (fun h => Hxy.out (by cases h; simp)) he).elim⟩
        · have hx2 : (x == y) = false := by simpa using hx1
          clear hxy
          go_wp2_with fail
          go_quiet (fail)
          go_wp2
          go_ret
          exact RBn.mk (belDrewN (belReflN _ _ _) _) ⟨nofun, fun he => (h3.out (fun h => Hxy.out (by cases h; simp)) he).elim⟩
    · obtain rfl : k = xs.length := by omega
      have he : Hid (xs = ys) := by
        have := Ht.out
        rw [List.take_of_length_le (Nat.le_refl _), HL.out, List.take_of_length_le (Nat.le_refl _)] at this
        exact this
      go_wp2
      go_ret
      exact RBn.mk (belReflN _ _ _) ⟨fun _ => he.out, fun _ => rfl⟩
theorem eqExpr_c (v u : Value) (a b : Re) (w : World) (hv : PR w v a) (hu : PR w u b) : Calls Try.prog 149 #[v, u] w (RBn w (a = b)) :=
  (equalPart_c v u _ _ w hv.2 hu.2).mono fun _ _ h => let ⟨b, h1, h2, h3⟩ := h; ⟨b, h1, h2, h3.out.trans ⟨fun e => flat_inj hv.1 hu.1 e, fun e => congrArg Re.flat e⟩⟩
end Go.Proofs.Ytbcjhiponbfbnaa
