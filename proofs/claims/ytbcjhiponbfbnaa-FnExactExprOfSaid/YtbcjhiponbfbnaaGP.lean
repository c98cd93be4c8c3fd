/- Simplified operations: the program's. An expression is read in blocks of parts.
Joined, either, both, not, star, made: the program's simplified operations answer the trees'. Expressions of at most 100000 parts.
simplified: the program's. Whole expressions of at most 60 parts. -/
import Derived.Deep.RegionHeld3
import Derived.Deep.DeepMust
import Derived.Test.YtbcjhiponbfbnaaDer
import Derived.Test.YtbcjhiponbfbnaaOpd
import Derived.Test.YtbcjhiponbfbnaaWex
set_option linter.unusedSimpArgs false
set_option linter.unusedVariables false
set_option linter.unusedSectionVars false
namespace Go.Proofs.Ytbcjhiponbfbnaa
open Go.RowKit
set_option maxRecDepth 100000
variable {S T : Nat → Prop}
/-- A block of parts. -/
def PT (w : World) (b : Nat) : Prop := ∃ cs fz, w.heap[b]? = some (.cells cs 67 fz)
theorem PT.stay {w w' : World} {b : Nat} (h : PT w b) (k : Below w.heap.size w w') : PT w' b := let ⟨cs, fz, e⟩ := h; ⟨cs, fz, blkBel k e⟩
/-- Parts in blocks of parts. -/
def PL0 (w : World) (v : Value) (xs : List (Int × Int)) : Prop := Pairs (PT w) w v xs
theorem PL0.stay {w w' : World} {v : Value} {xs : List (Int × Int)} (h : PL0 w v xs) (k : Below w.heap.size w w') : PL0 w' v xs := (Pairs.stay h (kpB k)).mono fun _ hb => hb.stay k
theorem PL0.any {w : World} {v : Value} {xs : List (Int × Int)} (h : PL0 w v xs) : Pairs (fun _ => True) w v xs := Pairs.mono h fun _ _ => trivial
/-- A whole expression. -/
def PR (w : World) (v : Value) (t : Re) : Prop := t.wf ∧ PL0 w v t.flat
theorem PR.stay {w w' : World} {v : Value} {t : Re} (h : PR w v t) (k : Below w.heap.size w w') : PR w' v t := ⟨h.1, h.2.stay k⟩
theorem PR.any {w : World} {v : Value} {t : Re} (h : PR w v t) : Pairs (fun _ => True) w v t.flat := h.2.any
theorem PR.shape {w : World} {v : Value} {t : Re} (h : PR w v t) : ∃ a cap, v = .slice a t.flat.length cap ∧ t.flat.length ≤ 9223372036854775807 := Pairs.shape h.2
theorem OwnP.pl0 {w : World} {base : Nat} {v : Value} {xs : List (Int × Int)} (h : OwnP w base v xs) : PL0 w v xs := by
  obtain ⟨a, cap, e, hn, hc⟩ := (ownFl h).fl
  refine ⟨a, cap, e, hn, fun i hi => ?_⟩
  obtain ⟨b, off, e', s, c⟩ := hc i hi
  refine ⟨b, off, e', ?_, c⟩
  rcases h.2 with ⟨h1, h2⟩ | ⟨g, c2, cur, h1, hb, hh, _⟩
  · rw [h1] at e; injection e with e1 e2 e3; rw [← e1] at e'; cases e'
  · rw [h1] at e; injection e with e1 e2 e3; rw [← e1] at e'; cases e'; exact ⟨_, _, hh⟩
theorem OwnP.pr {w : World} {base : Nat} {v : Value} {t : Re} (h : OwnP w base v t.flat) (ht : t.wf) : PR w v t := ⟨ht, h.pl0⟩
/-- A front part. -/
theorem PL0.front {w : World} {a : Option Addr} {n cap : Nat} {xs ys : List (Int × Int)} (h : PL0 w (.slice a n cap) (xs ++ ys)) : PL0 w (.slice a xs.length cap) xs := by
  obtain ⟨a', cap', e, hn, hc⟩ := h
  cases e
  rw [List.length_append] at hn
  refine ⟨_, _, rfl, ⟨by omega, by omega, hn.2.2⟩, fun i hi => ?_⟩
  have h2 : (cells2 (xs ++ ys)) = cells2 xs ++ cells2 ys := by simp [cells2]
  obtain ⟨b, off, e', s, c⟩ := hc i (by rw [h2, List.length_append]; omega)
  refine ⟨b, off, e', s, ?_⟩
  rw [c]; congr 1
  simp only [h2]
  rw [List.getElem_append_left hi]
/-- The last part, and what stands before it. -/
def Re.top : Re → Int
  | .none => 1
  | .empty => 2
  | .letter _ => 3
  | .join _ _ => 4
  | .either _ _ => 5
  | .both _ _ => 6
  | .not _ => 7
  | .star _ => 8
def Re.arg : Re → Int
  | .letter c => c
  | _ => 0
def Re.ini : Re → List (Int × Int)
  | .join a b => a.flat ++ b.flat
  | .either a b => a.flat ++ b.flat
  | .both a b => a.flat ++ b.flat
  | .not a => a.flat
  | .star a => a.flat
  | _ => []
theorem flat_top (t : Re) : t.flat = t.ini ++ [(t.top, t.arg)] := by cases t <;> rfl
theorem isNone_iff (t : Re) : (t.flat.length = 1 ∧ (t.flat.getD 0 (0, 0)).1 = 1) ↔ t = .none := by
  cases t with
  | join a b => have h1 := a.flat_pos; have h2 := len_join a b; unfold Re.len at h2; exact ⟨fun h => absurd h.1 (by omega), nofun⟩
  | either a b => have h1 := a.flat_pos; have h2 := len_either a b; unfold Re.len at h2; exact ⟨fun h => absurd h.1 (by omega), nofun⟩
  | both a b => have h1 := a.flat_pos; have h2 := len_both a b; unfold Re.len at h2; exact ⟨fun h => absurd h.1 (by omega), nofun⟩
  | not a => have h1 := a.flat_pos; have h2 := len_not a; unfold Re.len at h2; exact ⟨fun h => absurd h.1 (by omega), nofun⟩
  | star a => have h1 := a.flat_pos; have h2 := len_star a; unfold Re.len at h2; exact ⟨fun h => absurd h.1 (by omega), nofun⟩
  | _ => simp [Re.flat]
theorem isEmpty_iff (t : Re) : (t.flat.length = 1 ∧ (t.flat.getD 0 (0, 0)).1 = 2) ↔ t = .empty := by
  cases t with
  | join a b => have h1 := a.flat_pos; have h2 := len_join a b; unfold Re.len at h2; exact ⟨fun h => absurd h.1 (by omega), nofun⟩
  | either a b => have h1 := a.flat_pos; have h2 := len_either a b; unfold Re.len at h2; exact ⟨fun h => absurd h.1 (by omega), nofun⟩
  | both a b => have h1 := a.flat_pos; have h2 := len_both a b; unfold Re.len at h2; exact ⟨fun h => absurd h.1 (by omega), nofun⟩
  | not a => have h1 := a.flat_pos; have h2 := len_not a; unfold Re.len at h2; exact ⟨fun h => absurd h.1 (by omega), nofun⟩
  | star a => have h1 := a.flat_pos; have h2 := len_star a; unfold Re.len at h2; exact ⟨fun h => absurd h.1 (by omega), nofun⟩
  | _ => simp [Re.flat]
theorem isKind_c (v : Value) (e : List (Int × Int)) (k : Int) (w : World) (h : Pairs S w v e) : Calls Try.prog 147 #[v, .int .i64 k] w (RB w (e.length = 1 ∧ (e.getD 0 (0, 0)).1 = k)) := by
  obtain ⟨a, cap, rfl, hn⟩ := h.shape
  by_cases h1 : e.length = 1
  · obtain ⟨⟨x, y⟩, rfl⟩ := List.length_eq_one_iff.1 h1
    obtain ⟨b, off, rfl, k0, _⟩ := h.at (k := 0) (by simp)
    simp only [List.length_singleton, List.getElem_cons_zero, Nat.zero_mul, Nat.add_zero] at k0 ⊢
    clear h h1 hn
    go_enter Try.func147, Try.ntmps147
    go_wp2
    go_ret
    exact RB.mk (by simp)
  · have hI : ((e.length : Int) == 1) = false := by simp; omega
    have H1 := Lib.hid h1; clear h1 h
    go_enter Try.func147, Try.ntmps147
    go_wp2
    go_ret
    exact RB.mk ⟨nofun, fun h => absurd h.1 H1.out⟩
theorem isNone_c (v : Value) (t : Re) (w : World) (h : PR w v t) : Calls Try.prog 147 #[v, .int .i64 1] w (RB w (t = .none)) := (isKind_c v _ 1 w h.2).mono fun _ _ h => h.imp (isNone_iff t)
theorem isEmpty_c (v : Value) (t : Re) (w : World) (h : PR w v t) : Calls Try.prog 147 #[v, .int .i64 2] w (RB w (t = .empty)) := (isKind_c v _ 2 w h.2).mono fun _ _ h => h.imp (isEmpty_iff t)
theorem ends_c (v : Value) (t : Re) (k : Int) (w : World) (h : PR w v t) (hl : t.flat.length ≤ 1000000) : Calls Try.prog 148 #[v, .int .i64 k] w (RB w (t.top = k)) := by
  obtain ⟨a, cap, rfl, hn⟩ := h.shape
  have hp := h.2
  have hl2 : t.flat.length = t.ini.length + 1 := by rw [flat_top]; simp
  rw [hl2] at hp hl ⊢
  obtain ⟨b, off, rfl, k0, k9⟩ := Pairs.at hp (k := t.ini.length) (by omega)
  have e0 : t.flat[t.ini.length]'(by omega) = (t.top, t.arg) := by
    have : t.flat[t.ini.length]? = some (t.top, t.arg) := by rw [flat_top]; simp
    rw [List.getElem?_eq_getElem (by omega)] at this; exact Option.some.inj this
  rw [e0] at k0
  simp only at k0
  clear h hp e0 k9 hl2 hn
  obtain ⟨m, hm⟩ : ∃ m, m = t.ini.length := ⟨_, rfl⟩
  rw [← hm] at k0 hl ⊢
  clear hm
  obtain ⟨x, hx⟩ : ∃ x, x = t.top := ⟨_, rfl⟩
  rw [← hx] at k0 ⊢
  clear hx
  have hI : IntKind.i64.wrap ((m + 1 : Nat) - 1 : Int) = (m : Int) := by rw [show (((m + 1 : Nat) : Int) - 1) = (m : Int) by omega]; exact IntWalk.i64_in _ (by omega)
  have hlt : (m : Int) < (m : Int) + 1 := by omega
  go_enter Try.func148, Try.ntmps148
  go_wp2
  go_ret
  exact RB.mk (by simp)
set_option maxHeartbeats 800000 in
theorem equalPart_c (v u : Value) (xs ys : List (Int × Int)) (w : World) (hv : Pairs S w v xs) (hu : Pairs T w u ys) : Calls Try.prog 149 #[v, u] w (RBn w (xs = ys)) := by
  obtain ⟨a, ca, rfl, hn⟩ := hv.shape
  obtain ⟨b, cb, rfl, hn2⟩ := hu.shape
  by_cases hl : xs.length ≠ ys.length
  · have hne : ((xs.length : Int) != (ys.length : Int)) = true := by simp; omega
    have HL := Lib.hid hl; clear hl hv hu
    go_enter Try.func149, Try.ntmps149
    go_wp2
    go_ret
    exact RBn.mk (Below.refl _ _) ⟨nofun, fun h => absurd (congrArg List.length h) HL.out⟩
  have hl := Decidable.not_not.1 hl
  rw [← hl] at hu ⊢
  have HL := Lib.hid hl; clear hl
  have HV := Lib.hid hv; clear hv
  have HU := Lib.hid hu; clear hu
  have hne : ((xs.length : Int) != (xs.length : Int)) = false := by simp
  go_enter Try.func149, Try.ntmps149
  go_wp2
  go_loopw [13] (fun i wr => ∃ k : Nat, k ≤ xs.length ∧ i = .int .i64 k ∧ (∃ q, wr = w.drewN q) ∧ Hid (xs.take k = ys.take k)) (fun i _ => xs.length - (intOf i).toNat)
  case atStart => exact ⟨0, by omega, rfl, ⟨0, rfl⟩, by simp [Hid]⟩
  case round =>
    obtain ⟨k, hk, rfl, ⟨q, rfl⟩, Ht⟩ := hrel
    by_cases hlt : k < xs.length
    · have hlt2 : k < ys.length := by rw [← HL.out]; exact hlt
      obtain ⟨ba, oa, rfl, hca, hca2⟩ := HV.out.at hlt
      obtain ⟨bb, ob, rfl, hcb, hcb2⟩ := HU.out.at hlt2
      have h1 := Lib.hid (List.take_succ_eq_append_getElem hlt)
      have h2 := Lib.hid (List.take_succ_eq_append_getElem hlt2)
      have h3 : Hid (xs[k] ≠ ys[k] → xs ≠ ys) := fun hne he => hne (by subst he; rfl)
      obtain ⟨⟨x, x2⟩, hx⟩ : ∃ x, x = xs[k] := ⟨_, rfl⟩
      obtain ⟨⟨y, y2⟩, hy⟩ : ∃ y, y = ys[k] := ⟨_, rfl⟩
      rw [← hx] at hca hca2 h1 h3
      rw [← hy] at hcb hcb2 h2 h3
      clear hx hy
      simp only at hca hca2 hcb hcb2
      by_cases hxy : x = y ∧ x2 = y2
      · obtain ⟨rfl, rfl⟩ := hxy
        go_wp2_with fail
        go_quiet (fail)
        go_wp2
        go_roundw
        case rel => exact ⟨k + 1, by omega, by go_num, ⟨_, rfl⟩, by rw [h1.out, h2.out, Ht.out]; exact Lib.hid rfl⟩
        case measure => simp [intOf]; omega
      · have Hxy := Lib.hid hxy
        by_cases hx1 : x = y
        · have hx2 : (x2 == y2) = false := by simp; exact fun h => hxy ⟨hx1, h⟩
          have hx2n : ¬ x2 = y2 := fun h => hxy ⟨hx1, h⟩
          subst hx1
          clear hxy
          go_wp2_with fail
          go_quiet (fail)
          go_wp2
          go_ret
          exact RBn.mk (belDrewN (belReflN _ _ _) _) ⟨nofun, fun he => (h3.out (fun h => Hxy.out (by cases h; simp)) he).elim⟩
        · have hx2 : (x == y) = false := by simpa using hx1
          clear hxy
          go_wp2_with fail
          go_quiet (fail)
          go_wp2
          go_ret
          exact RBn.mk (belDrewN (belReflN _ _ _) _) ⟨nofun, fun he => (h3.out (fun h => Hxy.out (by cases h; simp)) he).elim⟩
    · obtain rfl : k = xs.length := by omega
      have he : Hid (xs = ys) := by
        have := Ht.out
        rw [List.take_of_length_le (Nat.le_refl _), HL.out, List.take_of_length_le (Nat.le_refl _)] at this
        exact this
      go_wp2
      go_ret
      exact RBn.mk (belReflN _ _ _) ⟨fun _ => he.out, fun _ => rfl⟩
theorem eqExpr_c (v u : Value) (a b : Re) (w : World) (hv : PR w v a) (hu : PR w u b) : Calls Try.prog 149 #[v, u] w (RBn w (a = b)) :=
  (equalPart_c v u _ _ w hv.2 hu.2).mono fun _ _ h => let ⟨b, h1, h2, h3⟩ := h; ⟨b, h1, h2, h3.out.trans ⟨fun e => flat_inj hv.1 hu.1 e, fun e => congrArg Re.flat e⟩⟩
end Go.Proofs.Ytbcjhiponbfbnaa
namespace Go.Proofs.Ytbcjhiponbfbnaa
open Go.RowKit
set_option maxRecDepth 100000
variable {S T : Nat → Prop}
/-- The call answers an expression; new memory at most. -/
def RE (w : World) (t : Re) (e : Ending) (w' : World) : Prop := ∃ v : Value, e = .returned v ∧ Below w.heap.size w w' ∧ Hid (PR w' v t)
theorem RE.mk {w w' : World} {t : Re} {v : Value} (hb : Below w.heap.size w w') (h : PR w' v t) : RE w t (.returned v) w' := ⟨v, rfl, hb, h⟩
theorem nestOne {α : Type} {R : World → Value → α → Prop} {S : Nat → Prop} {w : World} {t : TypeId} {v1 : Value} {x1 : α} {b : Nat} (hb : b = w.heap.size) (hS : S b)
    (h1 : R (w.alloc (.cells #[v1] t)) v1 x1) :
    Nest R S (w.alloc (.cells #[v1] t)) (.slice (some ⟨b, 0, none⟩) 1 1) [x1] := by
  subst hb
  refine ⟨[v1], ⟨_, 1, rfl, ⟨by simp [maxLen], Nat.le_refl _, by simp⟩, fun i hi => ⟨w.heap.size, 0, rfl, hS, ?_⟩⟩, rfl, ?_⟩
  · rw [Nat.zero_add, World.cell?_alloc_mark]
    simp at hi
    subst hi; rfl
  · intro i hi
    simp at hi
    subst hi
    exact h1
theorem leafR_c (k : Int) (t : Re) (w : World) (ht : t.wf) (hk : t.flat = [(k, 0)]) : Calls Try.prog 94 #[.int .i64 k] w (RE w t) := (leaf_c k w).mono fun _ _ ⟨v, h1, h2, h3⟩ => ⟨v, h1, h2, by rw [← hk] at h3; exact Lib.hid (h3.out.pr ht)⟩
set_option maxHeartbeats 400000 in
theorem op2_c (k : Int) (t a b : Re) (a1 : Option Addr) (n1 c1 : Nat) (a2 : Option Addr) (n2 c2 : Nat) (w w0 : World) (hw : Below w0.heap.size w0 w) (ht : t.wf) (hk : t.flat = a.flat ++ b.flat ++ [(k, 0)]) (ha : PR w (.slice a1 n1 c1) a) (hb : PR w (.slice a2 n2 c2) b) (hl : a.len + b.len ≤ 1000000) :
    Calls Try.prog 95 #[.int .i64 k, .slice (some ⟨w.heap.size, 0, none⟩) 2 2] (w.alloc (.cells #[.slice a1 n1 c1, .slice a2 n2 c2] 23)) (RE w0 t) := by
  have hN : Nest (Pairs fun _ => True) (fun _ => True) (w.alloc (.cells #[.slice a1 n1 c1, .slice a2 n2 c2] 23)) (.slice (some ⟨w.heap.size, 0, none⟩) 2 2) [a.flat, b.flat] :=
    nestTwo rfl trivial (ha.any.stay kpAlloc) (hb.any.stay kpAlloc)
  refine (operation_c k _ _ _ hN (fun _ _ => trivial) (by simp; unfold Re.len at hl; omega)).mono ?_
  rintro e w1 ⟨v, rfl, hb1, ho⟩
  have hs := hw.size
  refine RE.mk (hw.trans (((Below.refl _ _).alloc hs _).trans (hb1.mono (by simp; omega)))) ?_
  have e1 : [a.flat, b.flat].flatten ++ [(k, 0)] = t.flat := by rw [hk]; simp
  rw [e1] at ho
  exact ho.out.pr ht
theorem op1_c (k : Int) (t a : Re) (a1 : Option Addr) (n1 c1 : Nat) (w w0 : World) (hw : Below w0.heap.size w0 w) (ht : t.wf) (hk : t.flat = a.flat ++ [(k, 0)]) (ha : PR w (.slice a1 n1 c1) a) (hl : a.len ≤ 1000000) :
    Calls Try.prog 95 #[.int .i64 k, .slice (some ⟨w.heap.size, 0, none⟩) 1 1] (w.alloc (.cells #[.slice a1 n1 c1] 23)) (RE w0 t) := by
  have hN : Nest (Pairs fun _ => True) (fun _ => True) (w.alloc (.cells #[.slice a1 n1 c1] 23)) (.slice (some ⟨w.heap.size, 0, none⟩) 1 1) [a.flat] :=
    nestOne rfl trivial (ha.any.stay kpAlloc)
  refine (operation_c k _ _ _ hN (fun _ _ => trivial) (by simp; unfold Re.len at hl; omega)).mono ?_
  rintro e w1 ⟨v, rfl, hb1, ho⟩
  have hs := hw.size
  refine RE.mk (hw.trans (((Below.refl _ _).alloc hs _).trans (hb1.mono (by simp; omega)))) ?_
  have e1 : [a.flat].flatten ++ [(k, 0)] = t.flat := by rw [hk]; simp
  rw [e1] at ho
  exact ho.out.pr ht
set_option maxHeartbeats 800000 in
theorem joined_c (u v : Value) (a b : Re) (w : World) (ha : PR w u a) (hb : PR w v b) (hl : a.len + b.len ≤ 1000000) : Calls Try.prog 114 #[u, v] w (RE w (a.mkJoin b)) := by
  obtain ⟨a1, c1, rfl, _⟩ := ha.shape
  obtain ⟨a2, c2, rfl, _⟩ := hb.shape
  have HA := Lib.hid ha; have HB := Lib.hid hb; clear ha hb
  have HL := Lib.hid hl; clear hl
  go_enter Try.func114, Try.ntmps114
  go_wp2_with fail
  refine (isNone_c _ a w HA.out).mono ?_
  rintro e w1 ⟨b1, rfl, rfl, h1⟩
  cases b1
  · have hn1 := Lib.hid (hbF h1); clear h1
    go_wp2_with fail
    refine (isNone_c _ b w HB.out).mono ?_
    rintro e w1 ⟨b2, rfl, rfl, h2⟩
    cases b2
    · have hn2 := Lib.hid (hbF h2); clear h2
      go_wp2_with fail
      refine (isEmpty_c _ a w HA.out).mono ?_
      rintro e w1 ⟨b3, rfl, rfl, h3⟩
      cases b3
      · have hn3 := Lib.hid (hbF h3); clear h3
        go_wp2_with fail
        refine (isEmpty_c _ b w HB.out).mono ?_
        rintro e w1 ⟨b4, rfl, rfl, h4⟩
        cases b4
        · have hn4 := Lib.hid (hbF h4); clear h4
          have HE : Hid (a.mkJoin b = .join a b) := Lib.hid (by unfold Re.mkJoin; rw [if_neg (fun h => h.elim hn1.out hn2.out), if_neg hn3.out, if_neg hn4.out])
          go_wp2_with fail
          refine (op2_c 4 (.join a b) a b _ _ _ _ _ _ w w (Below.refl _ _) ⟨HA.out.1, HB.out.1⟩ rfl (HA.out) (HB.out) HL.out).mono ?_
          rintro e w9 ⟨v9, rfl, hb9, hp9⟩
          go_wp2
          go_ret
          exact RE.mk hb9 (by rw [HE.out]; exact hp9.out)
        · have he := hbT h4; clear h4
          have HE : Hid (a.mkJoin b = a) := Lib.hid (by unfold Re.mkJoin; rw [if_neg (fun h => h.elim hn1.out hn2.out), if_neg hn3.out, if_pos he])
          clear he
          go_wp2
          go_ret
          exact RE.mk (Below.refl _ _) (by rw [HE.out]; exact HA.out)
      · have he := hbT h3; clear h3
        have HE : Hid (a.mkJoin b = b) := Lib.hid (by unfold Re.mkJoin; rw [if_neg (fun h => h.elim hn1.out hn2.out), if_pos he])
        clear he
        go_wp2
        go_ret
        exact RE.mk (Below.refl _ _) (by rw [HE.out]; exact HB.out)
    · have he := hbT h2; clear h2
      have HE : Hid (a.mkJoin b = .none) := Lib.hid (by unfold Re.mkJoin; rw [if_pos (.inr he)])
      clear he
      go_wp2_with fail
      refine (leafR_c 1 .none w trivial rfl).mono ?_
      rintro e w9 ⟨v9, rfl, hb9, hp9⟩
      go_wp2
      go_ret
      exact RE.mk hb9 (by rw [HE.out]; exact hp9.out)
  · have he := hbT h1; clear h1
    have HE : Hid (a.mkJoin b = .none) := Lib.hid (by unfold Re.mkJoin; rw [if_pos (.inl he)])
    clear he
    go_wp2_with fail
    refine (leafR_c 1 .none w trivial rfl).mono ?_
    rintro e w9 ⟨v9, rfl, hb9, hp9⟩
    go_wp2
    go_ret
    exact RE.mk hb9 (by rw [HE.out]; exact hp9.out)
set_option maxHeartbeats 800000 in
theorem either_c (u v : Value) (a b : Re) (w : World) (ha : PR w u a) (hb : PR w v b) (hl : a.len + b.len ≤ 1000000) : Calls Try.prog 116 #[u, v] w (RE w (a.mkEither b)) := by
  obtain ⟨a1, c1, rfl, _⟩ := ha.shape
  obtain ⟨a2, c2, rfl, _⟩ := hb.shape
  have HA := Lib.hid ha; have HB := Lib.hid hb; clear ha hb
  have HL := Lib.hid hl; clear hl
  go_enter Try.func116, Try.ntmps116
  go_wp2_with fail
  refine (isNone_c _ a w HA.out).mono ?_
  rintro e w1 ⟨b1, rfl, rfl, h1⟩
  cases b1
  · have hn1 := Lib.hid (hbF h1); clear h1
    go_wp2_with fail
    refine (eqExpr_c _ _ a b w HA.out HB.out).mono ?_
    rintro e w2 ⟨b2, rfl, hq2, h2⟩
    have HA2 := Lib.hid (HA.out.stay hq2); have HB2 := Lib.hid (HB.out.stay hq2)
    cases b2
    · have hn2 := Lib.hid (hbF h2); clear h2
      go_wp2_with fail
      refine (isNone_c _ b w2 HB2.out).mono ?_
      rintro e w1 ⟨b3, rfl, rfl, h3⟩
      cases b3
      · have hn3 := Lib.hid (hbF h3); clear h3
        have HE : Hid (a.mkEither b = .either a b) := Lib.hid (by unfold Re.mkEither; rw [if_neg (fun h => h.elim hn1.out hn2.out), if_neg hn3.out])
        have HA := HA2; have HB := HB2
        go_wp2_with fail
        refine (op2_c 5 (.either a b) a b _ _ _ _ _ _ w2 w hq2 ⟨HA.out.1, HB.out.1⟩ rfl (HA.out) (HB.out) HL.out).mono ?_
        rintro e w9 ⟨v9, rfl, hb9, hp9⟩
        go_wp2
        go_ret
        exact RE.mk hb9 (by rw [HE.out]; exact hp9.out)
      · have he := hbT h3; clear h3
        have HE : Hid (a.mkEither b = a) := Lib.hid (by unfold Re.mkEither; rw [if_neg (fun h => h.elim hn1.out hn2.out), if_pos he])
        clear he
        go_wp2
        go_ret
        exact RE.mk hq2 (by rw [HE.out]; exact HA2.out)
    · have he := hbT h2; clear h2
      have HE : Hid (a.mkEither b = b) := Lib.hid (by unfold Re.mkEither; rw [if_pos (.inr he)])
      clear he
      go_wp2
      go_ret
      exact RE.mk hq2 (by rw [HE.out]; exact HB2.out)
  · have he := hbT h1; clear h1
    have HE : Hid (a.mkEither b = b) := Lib.hid (by unfold Re.mkEither; rw [if_pos (.inl he)])
    clear he
    go_wp2
    go_ret
    exact RE.mk (Below.refl _ _) (by rw [HE.out]; exact HB.out)
set_option maxHeartbeats 800000 in
theorem both_c (u v : Value) (a b : Re) (w : World) (ha : PR w u a) (hb : PR w v b) (hl : a.len + b.len ≤ 1000000) : Calls Try.prog 151 #[u, v] w (RE w (a.mkBoth b)) := by
  obtain ⟨a1, c1, rfl, _⟩ := ha.shape
  obtain ⟨a2, c2, rfl, _⟩ := hb.shape
  have HA := Lib.hid ha; have HB := Lib.hid hb; clear ha hb
  have HL := Lib.hid hl; clear hl
  go_enter Try.func151, Try.ntmps151
  go_wp2_with fail
  refine (isNone_c _ a w HA.out).mono ?_
  rintro e w1 ⟨b1, rfl, rfl, h1⟩
  cases b1
  · have hn1 := Lib.hid (hbF h1); clear h1
    go_wp2_with fail
    refine (isNone_c _ b w HB.out).mono ?_
    rintro e w1 ⟨b2, rfl, rfl, h2⟩
    cases b2
    · have hn2 := Lib.hid (hbF h2); clear h2
      go_wp2_with fail
      refine (eqExpr_c _ _ a b w HA.out HB.out).mono ?_
      rintro e w2 ⟨b3, rfl, hq2, h3⟩
      have HA2 := Lib.hid (HA.out.stay hq2); have HB2 := Lib.hid (HB.out.stay hq2)
      cases b3
      · have hn3 := Lib.hid (hbF h3); clear h3
        have HE : Hid (a.mkBoth b = .both a b) := Lib.hid (by unfold Re.mkBoth; rw [if_neg (fun h => h.elim hn1.out hn2.out), if_neg hn3.out])
        have HA := HA2; have HB := HB2
        go_wp2_with fail
        refine (op2_c 6 (.both a b) a b _ _ _ _ _ _ w2 w hq2 ⟨HA.out.1, HB.out.1⟩ rfl (HA.out) (HB.out) HL.out).mono ?_
        rintro e w9 ⟨v9, rfl, hb9, hp9⟩
        go_wp2
        go_ret
        exact RE.mk hb9 (by rw [HE.out]; exact hp9.out)
      · have he := hbT h3; clear h3
        have HE : Hid (a.mkBoth b = a) := Lib.hid (by unfold Re.mkBoth; rw [if_neg (fun h => h.elim hn1.out hn2.out), if_pos he])
        clear he
        go_wp2
        go_ret
        exact RE.mk hq2 (by rw [HE.out]; exact HA2.out)
    · have he := hbT h2; clear h2
      have HE : Hid (a.mkBoth b = .none) := Lib.hid (by unfold Re.mkBoth; rw [if_pos (.inr he)])
      clear he
      go_wp2_with fail
      refine (leafR_c 1 .none w trivial rfl).mono ?_
      rintro e w9 ⟨v9, rfl, hb9, hp9⟩
      go_wp2
      go_ret
      exact RE.mk hb9 (by rw [HE.out]; exact hp9.out)
  · have he := hbT h1; clear h1
    have HE : Hid (a.mkBoth b = .none) := Lib.hid (by unfold Re.mkBoth; rw [if_pos (.inl he)])
    clear he
    go_wp2_with fail
    refine (leafR_c 1 .none w trivial rfl).mono ?_
    rintro e w9 ⟨v9, rfl, hb9, hp9⟩
    go_wp2
    go_ret
    exact RE.mk hb9 (by rw [HE.out]; exact hp9.out)
theorem top_not {a : Re} (h : a.top = 7) : ∃ x, a = .not x := by cases a <;> first | exact ⟨_, rfl⟩ | (exact absurd h (by simp [Re.top]))
theorem top_star {a : Re} (h : a.top = 8) : ∃ x, a = .star x := by cases a <;> first | exact ⟨_, rfl⟩ | (exact absurd h (by simp [Re.top]))
theorem mkNot_no {a : Re} (h : ¬ a.top = 7) : a.mkNot = .not a := by cases a <;> first | rfl | exact absurd rfl h
theorem mkStar_no {a : Re} (h : ¬ a.top = 8) (h1 : ¬ a = .none) (h2 : ¬ a = .empty) : a.mkStar = .star a := by cases a <;> first | rfl | exact absurd rfl h | exact absurd rfl h1 | exact absurd rfl h2
set_option maxHeartbeats 800000 in
theorem not_c (u : Value) (a : Re) (w : World) (ha : PR w u a) (hl : a.len ≤ 1000000) : Calls Try.prog 120 #[u] w (RE w a.mkNot) := by
  obtain ⟨a1, c1, rfl, hn⟩ := ha.shape
  have HC := Fl.cap ha.2
  have HA := Lib.hid ha; clear ha
  have HL := Lib.hid hl
  have hll : a.flat.length ≤ 1000000 := hl
  by_cases htop : a.top = 7
  · obtain ⟨x, rfl⟩ := top_not htop
    have HE : Hid ((Re.not x).mkNot = x) := Lib.hid rfl
    have h2 : (Re.not x).flat.length = x.flat.length + 1 := len_not x
    rw [h2] at HA hll HC ⊢
    have HX : Hid (PR w (.slice a1 x.flat.length c1) x) := Lib.hid ⟨HA.out.1, PL0.front HA.out.2⟩
    obtain ⟨m, hm⟩ : ∃ m, m = x.flat.length := ⟨_, rfl⟩
    rw [← hm] at HX hll HC HA ⊢
    have hI : IntKind.i64.wrap ((m + 1 : Nat) - 1 : Int) = (m : Int) := by rw [show (((m + 1 : Nat) : Int) - 1) = (m : Int) by omega]; exact IntWalk.i64_in _ (by omega)
    clear hm h2 hn hl
    go_enter Try.func120, Try.ntmps120
    go_wp2_with fail
    refine (ends_c _ _ 7 w HA.out HL.out).mono ?_
    rintro e w1 ⟨b1, rfl, rfl, h1⟩
    obtain rfl : b1 = true := h1.out.2 htop
    clear h1 htop
    go_wp2
    go_ret
    exact RE.mk (Below.refl _ _) (by rw [HE.out]; exact HX.out)
  · have HE : Hid (a.mkNot = .not a) := Lib.hid (mkNot_no htop)
    have HT := Lib.hid htop; clear htop
    go_enter Try.func120, Try.ntmps120
    go_wp2_with fail
    refine (ends_c _ _ 7 w HA.out HL.out).mono ?_
    rintro e w1 ⟨b1, rfl, rfl, h1⟩
    cases b1
    · clear h1
      go_wp2_with fail
      refine (op1_c 7 (.not a) a _ _ _ w w (Below.refl _ _) HA.out.1 rfl HA.out HL.out).mono ?_
      rintro e w9 ⟨v9, rfl, hb9, hp9⟩
      go_wp2
      go_ret
      exact RE.mk hb9 (by rw [HE.out]; exact hp9.out)
    · exact absurd (hbT h1) HT.out
set_option maxHeartbeats 800000 in
theorem star_c (u : Value) (a : Re) (w : World) (ha : PR w u a) (hl : a.len ≤ 1000000) : Calls Try.prog 115 #[u] w (RE w a.mkStar) := by
  obtain ⟨a1, c1, rfl, hn⟩ := ha.shape
  have HA := Lib.hid ha; clear ha
  have HL := Lib.hid hl; clear hl
  go_enter Try.func115, Try.ntmps115
  go_wp2_with fail
  refine (isNone_c _ a w HA.out).mono ?_
  rintro e w1 ⟨b1, rfl, rfl, h1⟩
  cases b1
  · have hn1 := Lib.hid (hbF h1); clear h1
    go_wp2_with fail
    refine (isEmpty_c _ a w HA.out).mono ?_
    rintro e w1 ⟨b2, rfl, rfl, h2⟩
    cases b2
    · have hn2 := Lib.hid (hbF h2); clear h2
      go_wp2_with fail
      refine (ends_c _ _ 8 w HA.out HL.out).mono ?_
      rintro e w1 ⟨b3, rfl, rfl, h3⟩
      cases b3
      · have HE : Hid (a.mkStar = .star a) := Lib.hid (mkStar_no (hbF h3) hn1.out hn2.out)
        clear h3
        go_wp2_with fail
        refine (op1_c 8 (.star a) a _ _ _ w w (Below.refl _ _) HA.out.1 rfl HA.out HL.out).mono ?_
        rintro e w9 ⟨v9, rfl, hb9, hp9⟩
        go_wp2
        go_ret
        exact RE.mk hb9 (by rw [HE.out]; exact hp9.out)
      · have HE : Hid (a.mkStar = a) := Lib.hid (by obtain ⟨x, rfl⟩ := top_star (hbT h3); rfl)
        clear h3
        go_wp2
        go_ret
        exact RE.mk (Below.refl _ _) (by rw [HE.out]; exact HA.out)
    · have HE : Hid (a.mkStar = .empty) := Lib.hid (by rw [hbT h2]; rfl)
      clear h2
      go_wp2_with fail
      refine (leafR_c 2 .empty w trivial rfl).mono ?_
      rintro e w9 ⟨v9, rfl, hb9, hp9⟩
      go_wp2
      go_ret
      exact RE.mk hb9 (by rw [HE.out]; exact hp9.out)
  · have HE : Hid (a.mkStar = .empty) := Lib.hid (by rw [hbT h1]; rfl)
    clear h1
    go_wp2_with fail
    refine (leafR_c 2 .empty w trivial rfl).mono ?_
    rintro e w9 ⟨v9, rfl, hb9, hp9⟩
    go_wp2
    go_ret
    exact RE.mk hb9 (by rw [HE.out]; exact hp9.out)
/-- An operation with two operands. -/
def Re.mk3 (k : Int) (a b : Re) : Re := if k = 4 then a.mkJoin b else if k = 5 then a.mkEither b else a.mkBoth b
theorem made_c (k : Int) (u v : Value) (a b : Re) (w : World) (ha : PR w u a) (hb : PR w v b) (hl : a.len + b.len ≤ 1000000) : Calls Try.prog 122 #[.int .i64 k, u, v] w (RE w (Re.mk3 k a b)) := by
  obtain ⟨a1, c1, rfl, _⟩ := ha.shape
  obtain ⟨a2, c2, rfl, _⟩ := hb.shape
  have HA := Lib.hid ha; have HB := Lib.hid hb; clear ha hb
  have HL := Lib.hid hl; clear hl
  by_cases h4 : k = 4
  · have e4 : (k == 4) = true := by simpa using h4
    have HE : Hid (Re.mk3 k a b = a.mkJoin b) := Lib.hid (if_pos h4)
    clear h4
    go_enter Try.func122, Try.ntmps122
    go_wp2_with fail
    refine (joined_c _ _ a b w HA.out HB.out HL.out).mono ?_
    rintro e w9 ⟨v9, rfl, hb9, hp9⟩
    go_wp2
    go_ret
    exact RE.mk hb9 (by rw [HE.out]; exact hp9.out)
  · have e4 : (k == 4) = false := by simpa using h4
    by_cases h5 : k = 5
    · have e5 : (k == 5) = true := by simpa using h5
      have HE : Hid (Re.mk3 k a b = a.mkEither b) := Lib.hid (by unfold Re.mk3; rw [if_neg h4, if_pos h5])
      clear h4 h5
      go_enter Try.func122, Try.ntmps122
      go_wp2_with fail
      refine (either_c _ _ a b w HA.out HB.out HL.out).mono ?_
      rintro e w9 ⟨v9, rfl, hb9, hp9⟩
      go_wp2
      go_ret
      exact RE.mk hb9 (by rw [HE.out]; exact hp9.out)
    · have e5 : (k == 5) = false := by simpa using h5
      have HE : Hid (Re.mk3 k a b = a.mkBoth b) := Lib.hid (by unfold Re.mk3; rw [if_neg h4, if_neg h5])
      clear h4 h5
      go_enter Try.func122, Try.ntmps122
      go_wp2_with fail
      refine (both_c _ _ a b w HA.out HB.out HL.out).mono ?_
      rintro e w9 ⟨v9, rfl, hb9, hp9⟩
      go_wp2
      go_ret
      exact RE.mk hb9 (by rw [HE.out]; exact hp9.out)
end Go.Proofs.Ytbcjhiponbfbnaa
namespace Go.Proofs.Ytbcjhiponbfbnaa
open Go.RowKit
set_option maxRecDepth 100000
variable {S T : Nat → Prop}
theorem PR.of {w w' : World} {v : Value} {t : Re} (ht : t.wf) (h : Pairs (PT w) w' v t.flat) (k : Below w.heap.size w w') : PR w' v t := ⟨ht, Pairs.mono h fun _ hb => hb.stay k⟩
theorem RE.imp {w w' : World} {t u : Re} {e : Ending} (h : RE w t e w') (k : t = u) : RE w u e w' := k ▸ h
theorem RE.bel {w w0 w' : World} {t : Re} {e : Ending} (h : RE w t e w') (k : Below w0.heap.size w0 w) : RE w0 t e w' := let ⟨v, h1, h2, h3⟩ := h; ⟨v, h1, k.trans (h2.mono k.size), h3⟩
/-- The last part is read. -/
theorem lastC4 {e0 : List (Int × Int)} {x y : Int} {ad : Option Addr} {n cap : Nat} {w : World} (h : Pairs S w (.slice ad n cap) (e0 ++ [(x, y)])) : ∃ b off, ad = some ⟨b, off, none⟩ ∧ ∀ w', Below w.heap.size w w' → w'.cell? ⟨b, off + e0.length * 2, none⟩ = some (.int .i64 x) ∧ w'.cell? ⟨b, off + e0.length * 2 + 1, none⟩ = some (.int .i64 y) := by
  obtain ⟨b, off, rfl, _, _⟩ := h.at (k := e0.length) (by simp)
  refine ⟨b, off, rfl, fun w' hb => ?_⟩
  obtain ⟨b', off', e, c0, c1⟩ := (h.stay (kpB hb)).at (k := e0.length) (by simp)
  cases e
  rw [List.getElem_concat_length rfl] at c0 c1
  exact ⟨c0, c1⟩
theorem lastC3 {e0 : List (Int × Int)} {x y : Int} {ad : Option Addr} {n cap : Nat} {w : World} (h : Pairs S w (.slice ad n cap) (e0 ++ [(x, y)])) : n = e0.length + 1 := by
  obtain ⟨a', c', e, _⟩ := h.shape
  injection e with _ e2 _
  rw [e2]; simp
theorem PR.last {w : World} {v : Value} {t : Re} (h : PR w v t) : ∃ b off cap m, v = .slice (some ⟨b, off, none⟩) (m + 1) cap ∧ m + 1 = t.flat.length ∧ m = t.ini.length ∧ w.cell? ⟨b, off + m * 2, none⟩ = some (.int .i64 t.top) ∧ w.cell? ⟨b, off + m * 2 + 1, none⟩ = some (.int .i64 t.arg) := by
  have h2 : Pairs (PT w) w v (t.ini ++ [(t.top, t.arg)]) := by have := h.2; unfold PL0 at this; rw [flat_top] at this; exact this
  obtain ⟨ad, n, cap, rfl⟩ : ∃ ad n cap, v = .slice ad n cap := let ⟨x, y, z, _⟩ := h.shape; ⟨_, _, _, z⟩
  obtain ⟨bb, off, rfl, hC⟩ := lastC4 h2
  have hn := lastC3 h2
  subst hn
  exact ⟨bb, off, cap, t.ini.length, rfl, by rw [flat_top]; simp, rfl, hC w (Below.refl _ _)⟩
set_option maxHeartbeats 800000 in
theorem simp0_c (t : Re) (ht : t.wf) (h0 : pNeeds t.top = 0) (hf : t.flat = [(t.top, t.arg)]) (hp : pOk t.top t.arg) (hs : t.smp = t) (u : Value) (w : World) (h : PR w u t) : Calls Try.prog 121 #[u] w (RE w t.smp) := by
  obtain ⟨a, cap, rfl, _⟩ := h.shape
  have H := Lib.hid h
  have h2 : Pairs (PT w) w (.slice a t.flat.length cap) [(t.top, t.arg)] := by have := h.2; unfold PL0 at this; rw [hf] at this ⊢; exact this
  have hl : t.flat.length = 1 := by rw [hf]; rfl
  rw [hl] at h2 H ⊢
  have HOP := Lib.hid (operands0_c _ _ _ w h2 hp h0)
  obtain ⟨b, off, rfl, k0, k1⟩ := Pairs.at h2 (k := 0) (by simp)
  simp only [List.getElem_cons_zero, Nat.zero_mul, Nat.add_zero] at k0
  have HS := Lib.hid hs
  obtain ⟨x, hx⟩ : ∃ x, x = t.top := ⟨_, rfl⟩
  rw [← hx] at k0
  clear h h2 hf hl k1 hp h0 hx hs ht
  go_enter Try.func121, Try.ntmps121
  go_wp2_with fail
  refine HOP.out.mono ?_
  rintro e w1 ⟨rfl, hb1⟩
  go_wp2
  go_ret
  exact RE.mk hb1 (by rw [HS.out]; exact H.out.stay hb1)
set_option maxHeartbeats 400000 in
theorem simp2_c (t a b : Re) (ht : t.wf) (ha : a.wf) (hb : b.wf) (h0 : pNeeds t.top = 2) (hf : t.flat = a.flat ++ b.flat ++ [(t.top, t.arg)]) (hp : pOk t.top t.arg) (hl : a.len + b.len ≤ 9999)
    (iha : ∀ (w : World) (v : Value), PR w v a → Calls Try.prog 121 #[v] w (RE w a.smp)) (ihb : ∀ (w : World) (v : Value), PR w v b → Calls Try.prog 121 #[v] w (RE w b.smp))
    (hs : Re.mk3 t.top a.smp b.smp = t.smp) (u : Value) (w : World) (h : PR w u t) : Calls Try.prog 121 #[u] w (RE w t.smp) := by
  have h2 : Pairs (PT w) w u (a.flat ++ b.flat ++ [(t.top, t.arg)]) := by have := h.2; unfold PL0 at this; rw [hf] at this; exact this
  obtain ⟨ad, n, cap, rfl⟩ : ∃ ad n cap, u = .slice ad n cap := let ⟨x, y, z, _⟩ := h.shape; ⟨_, _, _, z⟩
  obtain ⟨bb, off, rfl, hC⟩ := lastC4 h2
  have hlab : (a.flat ++ b.flat).length ≤ 9999 := by rw [List.length_append]; exact hl
  have HOP := Lib.hid (operands2_c _ a b _ _ w ha hb h2 hp h0 hlab)
  have hn := lastC3 h2
  obtain ⟨c0, -⟩ := hC w (Below.refl _ _)
  obtain ⟨m, hm⟩ : ∃ m, m = (a.flat ++ b.flat).length := ⟨_, rfl⟩
  rw [← hm] at hn c0 hlab
  subst hn
  have HS := Lib.hid hs
  have HL := Lib.hid (show a.smp.len + b.smp.len ≤ 1000000 by have := len_smp a; have := len_smp b; omega)
  have HA := Lib.hid ha; have HB := Lib.hid hb
  have IA := Lib.hid iha; have IB := Lib.hid ihb
  obtain ⟨x, hx⟩ : ∃ x, x = t.top := ⟨_, rfl⟩
  rw [← hx] at c0 HS
  have hI : IntKind.i64.wrap ((m + 1 : Nat) - 1 : Int) = (m : Int) := by rw [show (((m + 1 : Nat) : Int) - 1) = (m : Int) by omega]; exact IntWalk.i64_in _ (by omega)
  have hlt : (m : Int) < (m : Int) + 1 := by omega
  clear h h2 hf hC hm hp h0 hx hs ht ha hb iha ihb hl
  go_enter Try.func121, Try.ntmps121
  go_wp2_with fail
  refine HOP.out.mono ?_
  rintro e w1 ⟨vo, rfl, hb1, ho⟩
  obtain ⟨g, c, ad1, cap1, ad2, cap2, rfl, _, _, kc1, kc2, hP1, hP2⟩ := ho.out.at
  have HP1 : Hid (PR w1 _ a) := Lib.hid (PR.of HA.out hP1 hb1); have HP2 : Hid (PR w1 _ b) := Lib.hid (PR.of HB.out hP2 hb1); clear hP1 hP2
  obtain ⟨n1, hn1⟩ : ∃ n1, n1 = a.flat.length := ⟨_, rfl⟩
  obtain ⟨n2, hn2⟩ : ∃ n2, n2 = b.flat.length := ⟨_, rfl⟩
  rw [← hn1] at kc1 HP1
  rw [← hn2] at kc2 HP2
  have HD1 := Lib.hid (HP1.out.stay (Below.refl _ _).drew); have HD2 := Lib.hid (HP2.out.stay (Below.refl _ _).drew)
  have KD : Hid (w1.drew.cell? ⟨g, 0, none⟩ = some (.slice ad1 n1 cap1) ∧ w1.drew.cell? ⟨g, 1, none⟩ = some (.slice ad2 n2 cap2)) := ⟨kc1, kc2⟩
  have HB1 := Lib.hid hb1
  clear hn1 hn2 c0 ho hb1 HOP HP1 HP2
  go_wp2_with fail
  go_region_held3 (fun w' => w'.cell? ⟨g, 0, none⟩ = some (.slice ad1 n1 cap1) ∧ w'.cell? ⟨g, 1, none⟩ = some (.slice ad2 n2 cap2))
    (first | exact KD.out | exact ⟨kpB (S := fun _ => True) hb2 _ _ trivial KD.out.1, kpB (S := fun _ => True) hb2 _ _ trivial KD.out.2⟩ | exact ⟨kpB (S := fun _ => True) hb4 _ _ trivial KD.out.1, kpB (S := fun _ => True) hb4 _ _ trivial KD.out.2⟩ | exact ⟨kpB (S := fun _ => True) hb3 _ _ trivial KD.out.1, kpB (S := fun _ => True) hb3 _ _ trivial KD.out.2⟩)
    (first
      | (go_at_call 121
         (with_reducible refine (IA.out w1.drew _ HD1.out).mono ?_)
         rintro e w2 ⟨va, rfl, hb2, hpa⟩
         obtain ⟨aA, cA, rfl, _⟩ := hpa.out.shape)
      | (go_at_call 121
         (with_reducible refine (IB.out w2 _ (HD2.out.stay hb2)).mono ?_)
         rintro e w3 ⟨vb, rfl, hb3', hpb⟩
         have hb3 := hb2.trans (hb3'.mono hb2.size)
         obtain ⟨aB, cB, rfl, _⟩ := hpb.out.shape)
      | (go_at_call 122
         (with_reducible refine (made_c _ _ _ _ _ w3 (hpa.out.stay hb3') hpb.out HL.out).mono ?_)
         rintro e w4 ⟨vc, rfl, hb4', hpc⟩
         have hb4 := hb3.trans (hb4'.mono hb3.size)))
  go_wp2
  go_ret
  exact RE.mk (HB1.out.trans (((Below.refl _ _).drew.trans hb4).mono HB1.out.size)) (by rw [← HS.out]; exact hpc.out)
set_option maxHeartbeats 2000000 in
theorem simp1_c (t a : Re) (ht : t.wf) (ha : a.wf) (h0 : pNeeds t.top = 1) (hf : t.flat = a.flat ++ [(t.top, t.arg)]) (hp : pOk t.top t.arg) (hl : a.len ≤ 9999)
    (iha : ∀ (w : World) (v : Value), PR w v a → Calls Try.prog 121 #[v] w (RE w a.smp))
    (hs : (if t.top = 7 then a.smp.mkNot else a.smp.mkStar) = t.smp) (u : Value) (w : World) (h : PR w u t) : Calls Try.prog 121 #[u] w (RE w t.smp) := by
  have h2 : Pairs (PT w) w u (a.flat ++ [(t.top, t.arg)]) := by have := h.2; unfold PL0 at this; rw [hf] at this; exact this
  obtain ⟨ad, n, cap, rfl⟩ : ∃ ad n cap, u = .slice ad n cap := let ⟨x, y, z, _⟩ := h.shape; ⟨_, _, _, z⟩
  obtain ⟨bb, off, rfl, hC⟩ := lastC4 h2
  have hla : a.flat.length ≤ 9999 := hl
  have HOP := Lib.hid (operands1_c _ a _ _ w ha h2 hp h0 hla)
  have hn := lastC3 h2
  obtain ⟨c0, -⟩ := hC w (Below.refl _ _)
  obtain ⟨m, hm⟩ : ∃ m, m = a.flat.length := ⟨_, rfl⟩
  rw [← hm] at hn c0 hla
  subst hn
  have HS := Lib.hid hs
  have HL := Lib.hid (show a.smp.len ≤ 1000000 by have := len_smp a; omega)
  have HA := Lib.hid ha
  have IA := Lib.hid iha
  obtain ⟨x, hx⟩ : ∃ x, x = t.top := ⟨_, rfl⟩
  rw [← hx] at c0 HS
  have hI : IntKind.i64.wrap ((m + 1 : Nat) - 1 : Int) = (m : Int) := by rw [show (((m + 1 : Nat) : Int) - 1) = (m : Int) by omega]; exact IntWalk.i64_in _ (by omega)
  have hlt : (m : Int) < (m : Int) + 1 := by omega
  clear h h2 hf hC hm hp h0 hx hs ht ha iha hl
  by_cases h7 : x = 7
  · have e7 : (x == 7) = true := by simpa using h7
    rw [if_pos h7] at HS
    clear h7
    go_enter Try.func121, Try.ntmps121
    go_wp2_with fail
    refine HOP.out.mono ?_
    rintro e w1 ⟨vo, rfl, hb1, ho⟩
    obtain ⟨g, c, ad1, cap1, rfl, _, _, kc1, kf1, hP1⟩ := ho.out.at
    have HP1 : Hid (PR w1 _ a) := Lib.hid (PR.of HA.out hP1 hb1); clear hP1
    obtain ⟨n1, hn1⟩ : ∃ n1, n1 = a.flat.length := ⟨_, rfl⟩
    rw [← hn1] at kc1 HP1
    have HB1 := Lib.hid hb1
    clear hn1 c0 ho hb1 HOP
    go_wp2_with fail
    refine (IA.out w1 _ HP1.out).mono ?_
    rintro e w2 ⟨va, rfl, hb2, hpa⟩
    clear kc1 kf1
    go_wp2_with fail
    refine (not_c _ _ w2 hpa.out HL.out).mono ?_
    rintro e w3 ⟨vb, rfl, hb3, hpb⟩
    go_wp2
    go_ret
    exact RE.mk ((HB1.out.trans (hb2.mono HB1.out.size)).trans (hb3.mono (Nat.le_trans HB1.out.size hb2.size))) (by rw [← HS.out]; exact hpb.out)
  · have e7 : (x == 7) = false := by simpa using h7
    rw [if_neg h7] at HS
    clear h7
    go_enter Try.func121, Try.ntmps121
    go_wp2_with fail
    refine HOP.out.mono ?_
    rintro e w1 ⟨vo, rfl, hb1, ho⟩
    obtain ⟨g, c, ad1, cap1, rfl, _, _, kc1, kf1, hP1⟩ := ho.out.at
    have HP1 : Hid (PR w1 _ a) := Lib.hid (PR.of HA.out hP1 hb1); clear hP1
    obtain ⟨n1, hn1⟩ : ∃ n1, n1 = a.flat.length := ⟨_, rfl⟩
    rw [← hn1] at kc1 HP1
    have HB1 := Lib.hid hb1
    clear hn1 c0 ho hb1 HOP
    go_wp2_with fail
    refine (IA.out w1 _ HP1.out).mono ?_
    rintro e w2 ⟨va, rfl, hb2, hpa⟩
    clear kc1 kf1
    go_wp2_with fail
    refine (star_c _ _ w2 hpa.out HL.out).mono ?_
    rintro e w3 ⟨vb, rfl, hb3, hpb⟩
    go_wp2
    go_ret
    exact RE.mk ((HB1.out.trans (hb2.mono HB1.out.size)).trans (hb3.mono (Nat.le_trans HB1.out.size hb2.size))) (by rw [← HS.out]; exact hpb.out)
theorem top_ok {t : Re} (h : t.wf) : pOk t.top t.arg := by
  cases t with
  | letter c => exact .inl ⟨rfl, h.1, h.2⟩
  | _ => exact .inr ⟨by simp [Re.top], by simp [Re.top], by simp [Re.top], rfl⟩
theorem simplified_c (t : Re) : t.wf → t.len ≤ 10000 → ∀ (w : World) (v : Value), PR w v t → Calls Try.prog 121 #[v] w (RE w t.smp) := by
  induction t with
  | none => exact fun ht _ w v h => simp0_c .none ht rfl rfl (top_ok ht) rfl v w h
  | empty => exact fun ht _ w v h => simp0_c .empty ht rfl rfl (top_ok ht) rfl v w h
  | letter c => exact fun ht _ w v h => simp0_c (.letter c) ht rfl rfl (.inl ⟨rfl, ht.1, ht.2⟩) rfl v w h
  | join a b iha ihb =>
    intro ht hl w v h
    rw [len_join] at hl
    exact simp2_c _ a b ht ht.1 ht.2 rfl rfl (top_ok ht) (by omega) (iha ht.1 (by omega)) (ihb ht.2 (by omega)) rfl v w h
  | either a b iha ihb =>
    intro ht hl w v h
    rw [len_either] at hl
    exact simp2_c _ a b ht ht.1 ht.2 rfl rfl (top_ok ht) (by omega) (iha ht.1 (by omega)) (ihb ht.2 (by omega)) rfl v w h
  | both a b iha ihb =>
    intro ht hl w v h
    rw [len_both] at hl
    exact simp2_c _ a b ht ht.1 ht.2 rfl rfl (top_ok ht) (by omega) (iha ht.1 (by omega)) (ihb ht.2 (by omega)) rfl v w h
  | not a iha =>
    intro ht hl w v h
    rw [len_not] at hl
    exact simp1_c _ a ht ht rfl rfl (top_ok ht) (by omega) (iha ht (by omega)) rfl v w h
  | star a iha =>
    intro ht hl w v h
    rw [len_star] at hl
    exact simp1_c _ a ht ht rfl rfl (top_ok ht) (by omega) (iha ht (by omega)) rfl v w h
end Go.Proofs.Ytbcjhiponbfbnaa
