/- Joined, either, both, not, star, made: the program's simplified operations answer the trees'. Expressions of at most 100000 parts. -/
import Derived.Deep.RegionHeld3
import Derived.Test.YtbcjhiponbfbnaaSim
set_option linter.unusedSimpArgs false
set_option linter.unusedVariables false
set_option linter.unusedSectionVars false
namespace Go.Proofs.Ytbcjhiponbfbnaa
open Go.RowKit
set_option maxRecDepth 100000
variable {S T : Nat → Prop}
/-- The call answers an expression; new memory at most. -/
def RE (w : World) (t : Re) (e : Ending) (w' : World) : Prop := ∃ v : Value, e = .returned v ∧ Below w.heap.size w w' ∧ Hid (PR w' v t)
theorem RE.mk {w w' : World} {t : Re} {v : Value} (hb : Below w.heap.size w w') (h : PR w' v t) : RE w t (.returned v) w' := ⟨v, rfl, hb, h⟩
theorem nestOne {α : Type} {R : World → Value → α → Prop} {S : Nat → Prop} {w : World} {t : TypeId} {v1 : Value} {x1 : α} {b : Nat} (hb : b = w.heap.size) (hS : S b)
    (h1 : R (w.alloc (.cells #[v1] t)) v1 x1) :
    Nest R S (w.alloc (.cells #[v1] t)) (.slice (some ⟨b, 0, none⟩) 1 1) [x1] := by
  subst hb
  refine ⟨[v1], ⟨_, 1, rfl, ⟨by simp [maxLen], Nat.le_refl _, by simp⟩, fun i hi => ⟨w.heap.size, 0, rfl, hS, ?_⟩⟩, rfl, ?_⟩
  · rw [Nat.zero_add, World.cell?_alloc_mark]
    simp at hi
    subst hi; rfl
  · intro i hi
    simp at hi
    subst hi
    exact h1
theorem leafR_c (k : Int) (t : Re) (w : World) (ht : t.wf) (hk : t.flat = [(k, 0)]) : Calls Try.prog 94 #[.int .i64 k] w (RE w t) := (leaf_c k w).mono fun _ _ ⟨v, h1, h2, h3⟩ => ⟨v, h1, h2, by rw [← hk] at h3; exact Lib.hid (h3.out.pr ht)⟩
set_option maxHeartbeats 400000 in
theorem op2_c (k : Int) (t a b : Re) (a1 : Option Addr) (n1 c1 : Nat) (a2 : Option Addr) (n2 c2 : Nat) (w w0 : World) (hw : Below w0.heap.size w0 w) (ht : t.wf) (hk : t.flat = a.flat ++ b.flat ++ [(k, 0)]) (ha : PR w (.slice a1 n1 c1) a) (hb : PR w (.slice a2 n2 c2) b) (hl : a.len + b.len ≤ 1000000) :
    Calls Try.prog 95 #[.int .i64 k, .slice (some ⟨w.heap.size, 0, none⟩) 2 2] (w.alloc (.cells #[.slice a1 n1 c1, .slice a2 n2 c2] 23)) (RE w0 t) := by
  have hN : Nest (Pairs fun _ => True) (fun _ => True) (w.alloc (.cells #[.slice a1 n1 c1, .slice a2 n2 c2] 23)) (.slice (some ⟨w.heap.size, 0, none⟩) 2 2) [a.flat, b.flat] :=
    nestTwo rfl trivial (ha.any.stay kpAlloc) (hb.any.stay kpAlloc)
  refine (operation_c k _ _ _ hN (fun _ _ => trivial) (by simp; unfold Re.len at hl; omega)).mono ?_
  rintro e w1 ⟨v, rfl, hb1, ho⟩
  have hs := hw.size
  refine RE.mk (hw.trans (((Below.refl _ _).alloc hs _).trans (hb1.mono (by simp; omega)))) ?_
  have e1 : [a.flat, b.flat].flatten ++ [(k, 0)] = t.flat := by rw [hk]; simp
  rw [e1] at ho
  exact ho.out.pr ht
theorem op1_c (k : Int) (t a : Re) (a1 : Option Addr) (n1 c1 : Nat) (w w0 : World) (hw : Below w0.heap.size w0 w) (ht : t.wf) (hk : t.flat = a.flat ++ [(k, 0)]) (ha : PR w (.slice a1 n1 c1) a) (hl : a.len ≤ 1000000) :
    Calls Try.prog 95 #[.int .i64 k, .slice (some ⟨w.heap.size, 0, none⟩) 1 1] (w.alloc (.cells #[.slice a1 n1 c1] 23)) (RE w0 t) := by
  have hN : Nest (Pairs fun _ => True) (fun _ => True) (w.alloc (.cells #[.slice a1 n1 c1] 23)) (.slice (some ⟨w.heap.size, 0, none⟩) 1 1) [a.flat] :=
    nestOne rfl trivial (ha.any.stay kpAlloc)
  refine (operation_c k _ _ _ hN (fun _ _ => trivial) (by simp; unfold Re.len at hl; omega)).mono ?_
  rintro e w1 ⟨v, rfl, hb1, ho⟩
  have hs := hw.size
  refine RE.mk (hw.trans (((Below.refl _ _).alloc hs _).trans (hb1.mono (by simp; omega)))) ?_
  have e1 : [a.flat].flatten ++ [(k, 0)] = t.flat := by rw [hk]; simp
  rw [e1] at ho
  exact ho.out.pr ht
set_option maxHeartbeats 800000 in
theorem joined_c (u v : Value) (a b : Re) (w : World) (ha : PR w u a) (hb : PR w v b) (hl : a.len + b.len ≤ 1000000) : Calls Try.prog 114 #[u, v] w (RE w (a.mkJoin b)) := by
  obtain ⟨a1, c1, rfl, _⟩ := ha.shape
  obtain ⟨a2, c2, rfl, _⟩ := hb.shape
  have HA := Lib.hid ha; have HB := Lib.hid hb; clear ha hb
  have HL := Lib.hid hl; clear hl
  go_enter Try.func114, Try.ntmps114
  go_wp2_with fail
  refine (isNone_c _ a w HA.out).mono ?_
  rintro e w1 ⟨b1, rfl, rfl, h1⟩
  cases b1
  · have hn1 := Lib.hid (hbF h1); clear h1
    go_wp2_with fail
    refine (isNone_c _ b w HB.out).mono ?_
    rintro e w1 ⟨b2, rfl, rfl, h2⟩
    cases b2
    · have hn2 := Lib.hid (hbF h2); clear h2
      go_wp2_with fail
      refine (isEmpty_c _ a w HA.out).mono ?_
      rintro e w1 ⟨b3, rfl, rfl, h3⟩
      cases b3
      · have hn3 := Lib.hid (hbF h3); clear h3
        go_wp2_with fail
        refine (isEmpty_c _ b w HB.out).mono ?_
        rintro e w1 ⟨b4, rfl, rfl, h4⟩
        cases b4
        · have hn4 := Lib.hid (hbF h4); clear h4
          have HE : Hid (a.mkJoin b = .join a b) := Lib.hid (by unfold Re.mkJoin; rw [if_neg (fun h => h.elim hn1.out hn2.out), if_neg hn3.out, if_neg hn4.out])
          go_wp2_with fail
          refine (op2_c 4 (.join a b) a b _ _ _ _ _ _ w w (Below.refl _ _) ⟨HA.out.1, HB.out.1⟩ rfl (HA.out) (HB.out) HL.out).mono ?_
          rintro e w9 ⟨v9, rfl, hb9, hp9⟩
          go_wp2
          go_ret
          exact RE.mk hb9 (by rw [HE.out]; exact hp9.out)
        · have he := hbT h4; clear h4
          have HE : Hid (a.mkJoin b = a) := Lib.hid (by unfold Re.mkJoin; rw [if_neg (fun h => h.elim hn1.out hn2.out), if_neg hn3.out, if_pos he])
          clear he
          go_wp2
          go_ret
          exact RE.mk (Below.refl _ _) (by rw [HE.out]; exact HA.out)
      · have he := hbT h3; clear h3
        have HE : Hid (a.mkJoin b = b) := Lib.hid (by unfold Re.mkJoin; rw [if_neg (fun h => h.elim hn1.out hn2.out), if_pos he])
        clear he
        go_wp2
        go_ret
        exact RE.mk (Below.refl _ _) (by rw [HE.out]; exact HB.out)
    · have he := hbT h2; clear h2
      have HE : Hid (a.mkJoin b = .none) := Lib.hid (by unfold Re.mkJoin; rw [if_pos (.inr he)])
      clear he
      go_wp2_with fail
      refine (leafR_c 1 .none w trivial rfl).mono ?_
      rintro e w9 ⟨v9, rfl, hb9, hp9⟩
      go_wp2
      go_ret
      exact RE.mk hb9 (by rw [HE.out]; exact hp9.out)
  · have he := hbT h1; clear h1
    have HE : Hid (a.mkJoin b = .none) := Lib.hid (by unfold Re.mkJoin; rw [if_pos (.inl he)])
    clear he
    go_wp2_with fail
    refine (leafR_c 1 .none w trivial rfl).mono ?_
    rintro e w9 ⟨v9, rfl, hb9, hp9⟩
    go_wp2
    go_ret
    exact RE.mk hb9 (by rw [HE.out]; exact hp9.out)
set_option maxHeartbeats 800000 in
theorem either_c (u v : Value) (a b : Re) (w : World) (ha : PR w u a) (hb : PR w v b) (hl : a.len + b.len ≤ 1000000) : Calls Try.prog 116 #[u, v] w (RE w (a.mkEither b)) := by
  obtain ⟨a1, c1, rfl, _⟩ := ha.shape
  obtain ⟨a2, c2, rfl, _⟩ := hb.shape
  have HA := Lib.hid ha; have HB := Lib.hid hb; clear ha hb
  have HL := Lib.hid hl; clear hl
  go_enter Try.func116, Try.ntmps116
  go_wp2_with fail
  refine (isNone_c _ a w HA.out).mono ?_
  rintro e w1 ⟨b1, rfl, rfl, h1⟩
  cases b1
  · have hn1 := Lib.hid (hbF h1); clear h1
    go_wp2_with fail
    refine (eqExpr_c _ _ a b w HA.out HB.out).mono ?_
    rintro e w2 ⟨b2, rfl, hq2, h2⟩
    have HA2 := Lib.hid (HA.out.stay hq2); have HB2 := Lib.hid (HB.out.stay hq2)
    cases b2
    · have hn2 := Lib.hid (hbF h2); clear h2
      go_wp2_with fail
      refine (isNone_c _ b w2 HB2.out).mono ?_
      rintro e w1 ⟨b3, rfl, rfl, h3⟩
      cases b3
      · have hn3 := Lib.hid (hbF h3); clear h3
        have HE : Hid (a.mkEither b = .either a b) := Lib.hid (by unfold Re.mkEither; rw [if_neg (fun h => h.elim hn1.out hn2.out), if_neg hn3.out])
        have HA := HA2; have HB := HB2
        go_wp2_with fail
        refine (op2_c 5 (.either a b) a b _ _ _ _ _ _ w2 w hq2 ⟨HA.out.1, HB.out.1⟩ rfl (HA.out) (HB.out) HL.out).mono ?_
        rintro e w9 ⟨v9, rfl, hb9, hp9⟩
        go_wp2
        go_ret
        exact RE.mk hb9 (by rw [HE.out]; exact hp9.out)
      · have he := hbT h3; clear h3
        have HE : Hid (a.mkEither b = a) := Lib.hid (by unfold Re.mkEither; rw [if_neg (fun h => h.elim hn1.out hn2.out), if_pos he])
        clear he
        go_wp2
        go_ret
        exact RE.mk hq2 (by rw [HE.out]; exact HA2.out)
    · have he := hbT h2; clear h2
      have HE : Hid (a.mkEither b = b) := Lib.hid (by unfold Re.mkEither; rw [if_pos (.inr he)])
      clear he
      go_wp2
      go_ret
      exact RE.mk hq2 (by rw [HE.out]; exact HB2.out)
  · have he := hbT h1; clear h1
    have HE : Hid (a.mkEither b = b) := Lib.hid (by unfold Re.mkEither; rw [if_pos (.inl he)])
    clear he
    go_wp2
    go_ret
    exact RE.mk (Below.refl _ _) (by rw [HE.out]; exact HB.out)
set_option maxHeartbeats 800000 in
theorem both_c (u v : Value) (a b : Re) (w : World) (ha : PR w u a) (hb : PR w v b) (hl : a.len + b.len ≤ 1000000) : Calls Try.prog 151 #[u, v] w (RE w (a.mkBoth b)) := by
  obtain ⟨a1, c1, rfl, _⟩ := ha.shape
  obtain ⟨a2, c2, rfl, _⟩ := hb.shape
  have HA := Lib.hid ha; have HB := Lib.hid hb; clear ha hb
  have HL := Lib.hid hl; clear hl
  go_enter Try.func151, Try.ntmps151
  go_wp2_with fail
  refine (isNone_c _ a w HA.out).mono ?_
  rintro e w1 ⟨b1, rfl, rfl, h1⟩
  cases b1
  · have hn1 := Lib.hid (hbF h1); clear h1
    go_wp2_with fail
    refine (isNone_c _ b w HB.out).mono ?_
    rintro e w1 ⟨b2, rfl, rfl, h2⟩
    cases b2
    · have hn2 := Lib.hid (hbF h2); clear h2
      go_wp2_with fail
      refine (eqExpr_c _ _ a b w HA.out HB.out).mono ?_
      rintro e w2 ⟨b3, rfl, hq2, h3⟩
      have HA2 := Lib.hid (HA.out.stay hq2); have HB2 := Lib.hid (HB.out.stay hq2)
      cases b3
      · have hn3 := Lib.hid (hbF h3); clear h3
        have HE : Hid (a.mkBoth b = .both a b) := Lib.hid (by unfold Re.mkBoth; rw [if_neg (fun h => h.elim hn1.out hn2.out), if_neg hn3.out])
        have HA := HA2; have HB := HB2
        go_wp2_with fail
        refine (op2_c 6 (.both a b) a b _ _ _ _ _ _ w2 w hq2 ⟨HA.out.1, HB.out.1⟩ rfl (HA.out) (HB.out) HL.out).mono ?_
        rintro e w9 ⟨v9, rfl, hb9, hp9⟩
        go_wp2
        go_ret
        exact RE.mk hb9 (by rw [HE.out]; exact hp9.out)
      · have he := hbT h3; clear h3
        have HE : Hid (a.mkBoth b = a) := Lib.hid (by unfold Re.mkBoth; rw [if_neg (fun h => h.elim hn1.out hn2.out), if_pos he])
        clear he
        go_wp2
        go_ret
        exact RE.mk hq2 (by rw [HE.out]; exact HA2.out)
    · have he := hbT h2; clear h2
      have HE : Hid (a.mkBoth b = .none) := Lib.hid (by unfold Re.mkBoth; rw [if_pos (.inr he)])
      clear he
      go_wp2_with fail
      refine (leafR_c 1 .none w trivial rfl).mono ?_
      rintro e w9 ⟨v9, rfl, hb9, hp9⟩
      go_wp2
      go_ret
      exact RE.mk hb9 (by rw [HE.out]; exact hp9.out)
  · have he := hbT h1; clear h1
    have HE : Hid (a.mkBoth b = .none) := Lib.hid (by unfold Re.mkBoth; rw [if_pos (.inl he)])
    clear he
    go_wp2_with fail
    refine (leafR_c 1 .none w trivial rfl).mono ?_
    rintro e w9 ⟨v9, rfl, hb9, hp9⟩
    go_wp2
    go_ret
    exact RE.mk hb9 (by rw [HE.out]; exact hp9.out)
theorem top_not {a : Re} (h : a.top = 7) : ∃ x, a = .not x := by cases a <;> first | exact ⟨_, rfl⟩ | (exact absurd h (by simp [Re.top]))
theorem top_star {a : Re} (h : a.top = 8) : ∃ x, a = .star x := by cases a <;> first | exact ⟨_, rfl⟩ | (exact absurd h (by simp [Re.top]))
theorem mkNot_no {a : Re} (h : ¬ a.top = 7) : a.mkNot = .not a := by cases a <;> first | rfl | exact absurd rfl h
theorem mkStar_no {a : Re} (h : ¬ a.top = 8) (h1 : ¬ a = .none) (h2 : ¬ a = .empty) : a.mkStar = .star a := by cases a <;> first | rfl | exact absurd rfl h | exact absurd rfl h1 | exact absurd rfl h2
set_option maxHeartbeats 800000 in
theorem not_c (u : Value) (a : Re) (w : World) (ha : PR w u a) (hl : a.len ≤ 1000000) : Calls Try.prog 120 #[u] w (RE w a.mkNot) := by
  obtain ⟨a1, c1, rfl, hn⟩ := ha.shape
  have HC := Fl.cap ha.2
  have HA := Lib.hid ha; clear ha
  have HL := Lib.hid hl
  have hll : a.flat.length ≤ 1000000 := hl
  by_cases htop : a.top = 7
  · obtain ⟨x, rfl⟩ := top_not htop
    have HE : Hid ((Re.not x).mkNot = x) := Lib.hid rfl
    have h2 : (Re.not x).flat.length = x.flat.length + 1 := len_not x
    rw [h2] at HA hll HC ⊢
    have HX : Hid (PR w (.slice a1 x.flat.length c1) x) := Lib.hid ⟨HA.out.1, PL0.front HA.out.2⟩
    obtain ⟨m, hm⟩ : ∃ m, m = x.flat.length := ⟨_, rfl⟩
    rw [← hm] at HX hll HC HA ⊢
    have hI : IntKind.i64.wrap ((m + 1 : Nat) - 1 : Int) = (m : Int) := by rw [show (((m + 1 : Nat) : Int) - 1) = (m : Int) by omega]; exact IntWalk.i64_in _ (by omega)
    clear hm h2 hn hl
    go_enter Try.func120, Try.ntmps120
    go_wp2_with fail
    refine (ends_c _ _ 7 w HA.out HL.out).mono ?_
    rintro e w1 ⟨b1, rfl, rfl, h1⟩
    obtain rfl : b1 = true := h1.out.2 htop
    clear h1 htop
    go_wp2
    go_ret
    exact RE.mk (Below.refl _ _) (by rw [HE.out]; exact HX.out)
  · have HE : Hid (a.mkNot = .not a) := Lib.hid (mkNot_no htop)
    have HT := Lib.hid htop; clear htop
    go_enter Try.func120, Try.ntmps120
    go_wp2_with fail
    refine (ends_c _ _ 7 w HA.out HL.out).mono ?_
    rintro e w1 ⟨b1, rfl, rfl, h1⟩
    cases b1
    · clear h1
      go_wp2_with fail
      refine (op1_c 7 (.not a) a _ _ _ w w (Below.refl _ _) HA.out.1 rfl HA.out HL.out).mono ?_
      rintro e w9 ⟨v9, rfl, hb9, hp9⟩
      go_wp2
      go_ret
      exact RE.mk hb9 (by rw [HE.out]; exact hp9.out)
    · exact absurd (hbT h1) HT.out
set_option maxHeartbeats 800000 in
theorem star_c (u : Value) (a : Re) (w : World) (ha : PR w u a) (hl : a.len ≤ 1000000) : Calls Try.prog 115 #[u] w (RE w a.mkStar) := by
  obtain ⟨a1, c1, rfl, hn⟩ := ha.shape
  have HA := Lib.hid ha; clear ha
  have HL := Lib.hid hl; clear hl
  go_enter Try.func115, Try.ntmps115
  go_wp2_with fail
  refine (isNone_c _ a w HA.out).mono ?_
  rintro e w1 ⟨b1, rfl, rfl, h1⟩
  cases b1
  · have hn1 := Lib.hid (hbF h1); clear h1
    go_wp2_with fail
    refine (isEmpty_c _ a w HA.out).mono ?_
    rintro e w1 ⟨b2, rfl, rfl, h2⟩
    cases b2
    · have hn2 := Lib.hid (hbF h2); clear h2
      go_wp2_with fail
      refine (ends_c _ _ 8 w HA.out HL.out).mono ?_
      rintro e w1 ⟨b3, rfl, rfl, h3⟩
      cases b3
      · have HE : Hid (a.mkStar = .star a) := Lib.hid (mkStar_no (hbF h3) hn1.out hn2.out)
        clear h3
        go_wp2_with fail
        refine (op1_c 8 (.star a) a _ _ _ w w (Below.refl _ _) HA.out.1 rfl HA.out HL.out).mono ?_
        rintro e w9 ⟨v9, rfl, hb9, hp9⟩
        go_wp2
        go_ret
        exact RE.mk hb9 (by rw [HE.out]; exact hp9.out)
      · have HE : Hid (a.mkStar = a) := Lib.hid (by obtain ⟨x, rfl⟩ := top_star (hbT h3); rfl)
        clear h3
        go_wp2
        go_ret
        exact RE.mk (Below.refl _ _) (by rw [HE.out]; exact HA.out)
    · have HE : Hid (a.mkStar = .empty) := Lib.hid (by rw [hbT h2]; rfl)
      clear h2
      go_wp2_with fail
      refine (leafR_c 2 .empty w trivial rfl).mono ?_
      rintro e w9 ⟨v9, rfl, hb9, hp9⟩
      go_wp2
      go_ret
      exact RE.mk hb9 (by rw [HE.out]; exact hp9.out)
  · have HE : Hid (a.mkStar = .empty) := Lib.hid (by rw [hbT h1]; rfl)
    clear h1
    go_wp2_with fail
    refine (leafR_c 2 .empty w trivial rfl).mono ?_
    rintro e w9 ⟨v9, rfl, hb9, hp9⟩
    go_wp2
    go_ret
    exact RE.mk hb9 (by rw [HE.out]; exact hp9.out)
/-- An operation with two operands. -/
def Re.mk3 (k : Int) (a b : Re) : Re := if k = 4 then a.mkJoin b else if k = 5 then a.mkEither b else a.mkBoth b
theorem made_c (k : Int) (u v : Value) (a b : Re) (w : World) (ha : PR w u a) (hb : PR w v b) (hl : a.len + b.len ≤ 1000000) : Calls Try.prog 122 #[.int .i64 k, u, v] w (RE w (Re.mk3 k a b)) := by
  obtain ⟨a1, c1, rfl, _⟩ := ha.shape
  obtain ⟨a2, c2, rfl, _⟩ := hb.shape
  have HA := Lib.hid ha; have HB := Lib.hid hb; clear ha hb
  have HL := Lib.hid hl; clear hl
  by_cases h4 : k = 4
  · have e4 : (k == 4) = true := by simpa using h4
    have HE : Hid (Re.mk3 k a b = a.mkJoin b) := Lib.hid (if_pos h4)
    clear h4
    go_enter Try.func122, Try.ntmps122
    go_wp2_with fail
    refine (joined_c _ _ a b w HA.out HB.out HL.out).mono ?_
    rintro e w9 ⟨v9, rfl, hb9, hp9⟩
    go_wp2
    go_ret
    exact RE.mk hb9 (by rw [HE.out]; exact hp9.out)
  · have e4 : (k == 4) = false := by simpa using h4
    by_cases h5 : k = 5
    · have e5 : (k == 5) = true := by simpa using h5
      have HE : Hid (Re.mk3 k a b = a.mkEither b) := Lib.hid (by unfold Re.mk3; rw [if_neg h4, if_pos h5])
      clear h4 h5
      go_enter Try.func122, Try.ntmps122
      go_wp2_with fail
      refine (either_c _ _ a b w HA.out HB.out HL.out).mono ?_
      rintro e w9 ⟨v9, rfl, hb9, hp9⟩
      go_wp2
      go_ret
      exact RE.mk hb9 (by rw [HE.out]; exact hp9.out)
    · have e5 : (k == 5) = false := by simpa using h5
      have HE : Hid (Re.mk3 k a b = a.mkBoth b) := Lib.hid (by unfold Re.mk3; rw [if_neg h4, if_neg h5])
      clear h4 h5
      go_enter Try.func122, Try.ntmps122
      go_wp2_with fail
      refine (both_c _ _ a b w HA.out HB.out HL.out).mono ?_
      rintro e w9 ⟨v9, rfl, hb9, hp9⟩
      go_wp2
      go_ret
      exact RE.mk hb9 (by rw [HE.out]; exact hp9.out)
end Go.Proofs.Ytbcjhiponbfbnaa
