/- Simplified operations: the reference's l5Make answers the trees'. Expressions of at most 1000000 parts. -/
import Derived.Deep.RegionHeld3
import Derived.Deep.Cut
import Derived.Deep.CutRange
import Derived.Deep.CutBlock
import Derived.Test.YtbcjhiponbfbnaaGP
import Derived.Test.YtbcjhiponbfbnaaRgi
set_option linter.unusedSimpArgs false
set_option linter.unusedVariables false
set_option linter.unusedSectionVars false
namespace Go.Proofs.Ytbcjhiponbfbnaa
open Go.RowKit
set_option maxRecDepth 100000
variable {S T : Nat → Prop}
theorem l5Is_c (v : Value) (e : List (Int × Int)) (k : Int) (w : World) (h : Pairs S w v e) : Calls Try.prog 142 #[v, .int .i64 k] w (RB w (e.length = 1 ∧ (e.getD 0 (0, 0)).1 = k)) := by
  obtain ⟨a, cap, rfl, hn⟩ := h.shape
  by_cases h1 : e.length = 1
  · obtain ⟨⟨x, y⟩, rfl⟩ := List.length_eq_one_iff.1 h1
    obtain ⟨b, off, rfl, k0, _⟩ := h.at (k := 0) (by simp)
    simp only [List.length_singleton, List.getElem_cons_zero, Nat.zero_mul, Nat.add_zero] at k0 ⊢
    clear h h1 hn
    go_enter Try.func142, Try.ntmps142
    go_wp2
    go_ret
    exact RB.mk (by simp)
  · have hI : ((e.length : Int) == 1) = false := by simp; omega
    have H1 := Lib.hid h1; clear h1 h
    go_enter Try.func142, Try.ntmps142
    go_wp2
    go_ret
    exact RB.mk ⟨nofun, fun h => absurd h.1 H1.out⟩
theorem l5None_c (v : Value) (t : Re) (w : World) (h : PR w v t) : Calls Try.prog 142 #[v, .int .i64 1] w (RB w (t = .none)) := (l5Is_c v _ 1 w h.2).mono fun _ _ h => h.imp (isNone_iff t)
theorem l5Empty_c (v : Value) (t : Re) (w : World) (h : PR w v t) : Calls Try.prog 142 #[v, .int .i64 2] w (RB w (t = .empty)) := (l5Is_c v _ 2 w h.2).mono fun _ _ h => h.imp (isEmpty_iff t)
set_option maxHeartbeats 800000 in
theorem l5Same_c (v u : Value) (xs ys : List (Int × Int)) (w : World) (hv : Pairs S w v xs) (hu : Pairs T w u ys) : Calls Try.prog 78 #[v, u] w (RBn w (xs = ys)) := by
  obtain ⟨a, ca, rfl, hn⟩ := hv.shape
  obtain ⟨b, cb, rfl, hn2⟩ := hu.shape
  by_cases hl : xs.length ≠ ys.length
  · have hne : ((xs.length : Int) != (ys.length : Int)) = true := by simp; omega
    have HL := Lib.hid hl; clear hl hv hu
    go_enter Try.func78, Try.ntmps78
    go_wp2
    go_ret
    exact RBn.mk (Below.refl _ _) ⟨nofun, fun h => absurd (congrArg List.length h) HL.out⟩
  have hl := Decidable.not_not.1 hl
  rw [← hl] at hu ⊢
  have HL := Lib.hid hl; clear hl
  have HV := Lib.hid hv; clear hv
  have HU := Lib.hid hu; clear hu
  have hne : ((xs.length : Int) != (xs.length : Int)) = false := by simp
  go_enter Try.func78, Try.ntmps78
  go_wp2
  go_loopw [5] (fun i wr => ∃ k : Nat, k ≤ xs.length ∧ i = .int .i64 k ∧ (∃ q, wr = w.drewN q) ∧ Hid (xs.take k = ys.take k)) (fun i _ => xs.length - (intOf i).toNat)
  case atStart => exact ⟨0, by omega, rfl, ⟨0, rfl⟩, by simp [Hid]⟩
  case round =>
    obtain ⟨k, hk, rfl, ⟨q, rfl⟩, Ht⟩ := hrel
    by_cases hlt : k < xs.length
    · have hlt2 : k < ys.length := by rw [← HL.out]; exact hlt
      obtain ⟨ba, oa, rfl, hca, hca2⟩ := HV.out.at hlt
      obtain ⟨bb, ob, rfl, hcb, hcb2⟩ := HU.out.at hlt2
      have h1 := Lib.hid (List.take_succ_eq_append_getElem hlt)
      have h2 := Lib.hid (List.take_succ_eq_append_getElem hlt2)
      have h3 : Hid (xs[k] ≠ ys[k] → xs ≠ ys) := fun hne he => hne (by subst he; rfl)
      obtain ⟨⟨x, x2⟩, hx⟩ : ∃ x, x = xs[k] := ⟨_, rfl⟩
      obtain ⟨⟨y, y2⟩, hy⟩ : ∃ y, y = ys[k] := ⟨_, rfl⟩
      rw [← hx] at hca hca2 h1 h3
      rw [← hy] at hcb hcb2 h2 h3
      clear hx hy
      simp only at hca hca2 hcb hcb2
      by_cases hxy : x = y ∧ x2 = y2
      · obtain ⟨rfl, rfl⟩ := hxy
        go_wp2_with fail
        go_quiet (fail)
        go_wp2
        go_roundw
        case rel => exact ⟨k + 1, by omega, by go_num, ⟨_, rfl⟩, by rw [h1.out, h2.out, Ht.out]; exact Lib.hid rfl⟩
        case measure => simp [intOf]; omega
      · have Hxy := Lib.hid hxy
        by_cases hx1 : x = y
        · have hx2 : (x2 == y2) = false := by simp; exact fun h => hxy ⟨hx1, h⟩
          have hx2n : ¬ x2 = y2 := fun h => hxy ⟨hx1, h⟩
          subst hx1
          clear hxy
          go_wp2_with fail
          go_quiet (fail)
          go_wp2
          go_ret
          exact RBn.mk (belDrewN (belReflN _ _ _) _) ⟨nofun, fun he => (h3.out (fun h => Hxy.out (by cases h; simp)) he).elim⟩
        · have hx2 : (x == y) = false := by simpa using hx1
          clear hxy
          go_wp2_with fail
          go_quiet (fail)
          go_wp2
          go_ret
          exact RBn.mk (belDrewN (belReflN _ _ _) _) ⟨nofun, fun he => (h3.out (fun h => Hxy.out (by cases h; simp)) he).elim⟩
    · obtain rfl : k = xs.length := by omega
      have he : Hid (xs = ys) := by
        have := Ht.out
        rw [List.take_of_length_le (Nat.le_refl _), HL.out, List.take_of_length_le (Nat.le_refl _)] at this
        exact this
      go_wp2
      go_ret
      exact RBn.mk (belReflN _ _ _) ⟨fun _ => he.out, fun _ => rfl⟩
theorem l5SameR_c (v u : Value) (a b : Re) (w : World) (hv : PR w v a) (hu : PR w u b) : Calls Try.prog 78 #[v, u] w (RBn w (a = b)) :=
  (l5Same_c v u _ _ w hv.2 hu.2).mono fun _ _ h => let ⟨b, h1, h2, h3⟩ := h; ⟨b, h1, h2, h3.out.trans ⟨fun e => flat_inj hv.1 hu.1 e, fun e => congrArg Re.flat e⟩⟩
/-- What an operation with these operands is, simplified. -/
def L5 (k y : Int) (A B : List (Int × Int)) (R : Re) : Prop := R.wf ∧
  ((k = 4 ∧ y = 0 ∧ ∃ a b : Re, a.wf ∧ b.wf ∧ A = a.flat ∧ B = b.flat ∧ R = a.mkJoin b) ∨ (k = 5 ∧ y = 0 ∧ ∃ a b : Re, a.wf ∧ b.wf ∧ A = a.flat ∧ B = b.flat ∧ R = a.mkEither b) ∨
   (k = 6 ∧ y = 0 ∧ ∃ a b : Re, a.wf ∧ b.wf ∧ A = a.flat ∧ B = b.flat ∧ R = a.mkBoth b) ∨ (k = 7 ∧ y = 0 ∧ ∃ a : Re, a.wf ∧ A = a.flat ∧ B = [] ∧ R = a.mkNot) ∨
   (k = 8 ∧ y = 0 ∧ ∃ a : Re, a.wf ∧ A = a.flat ∧ B = [] ∧ R = a.mkStar) ∨ ((k = 1 ∨ k = 2 ∨ k = 3) ∧ A = [] ∧ B = [] ∧ R.flat = [(k, y)]))
theorem PL0.ofW {w w' : World} {v : Value} {xs : List (Int × Int)} (h : Pairs (PT w) w' v xs) (k : Below w.heap.size w w') : PL0 w' v xs := Pairs.mono h fun _ hb => hb.stay k
set_option maxHeartbeats 4000000 in
theorem l5Make_c (k y : Int) (A B : List (Int × Int)) (R : Re) (hk : L5 k y A B R) (va vb : Value) (w : World) (hA : PL0 w va A) (hB : PL0 w vb B) (hl : A.length + B.length ≤ 1000000) :
    Calls Try.prog 105 #[.agg #[.int .i64 k, .int .i64 y], va, vb] w (RE w R) := by
  obtain ⟨a1, c1, rfl, hn1⟩ := Pairs.shape hA
  obtain ⟨a2, c2, rfl, hn2⟩ := Pairs.shape hB
  obtain ⟨W, hW⟩ : ∃ W, W = ((w.alloc (.cells #[.int .i64 k, .int .i64 y] 67)).alloc (.cells #[.int .i64 1, .int .i64 0] 67)).alloc (.cells #[.int .i64 2, .int .i64 0] 67) := ⟨_, rfl⟩
  have hBW : Below w.heap.size w W := by rw [hW]; exact (((Below.refl _ _).alloc (Nat.le_refl _) _).alloc (by simp) _).alloc (by simp; omega) _
  have K0 : Hid (W.heap[w.heap.size]? = some (.cells #[.int .i64 k, .int .i64 y] 67 (0, 0))) := Lib.hid (by rw [hW]; exact blkOld (blkOld (blkNew _ _ rfl)))
  have HON : Hid (OwnP W w.heap.size (.slice (some ⟨w.heap.size + 1, 0, none⟩) 1 1) [(1, 0)]) := Lib.hid (by
    rw [hW]
    refine OwnP.stay ?_ ((Below.refl _ _).alloc (Nat.le_refl _) _)
    have := ownLit (w := w.alloc (.cells #[.int .i64 k, .int .i64 y] 67)) (base := w.heap.size) (n := 1) (e := 67) (sz := 2) [.int .i64 1, .int .i64 0] (by simp) (by omega) rfl
    rw [show (w.alloc (.cells #[.int .i64 k, .int .i64 y] 67)).heap.size = w.heap.size + 1 by simp] at this
    exact this)
  have HOE : Hid (OwnP W w.heap.size (.slice (some ⟨w.heap.size + 1 + 1, 0, none⟩) 1 1) [(2, 0)]) := Lib.hid (by
    rw [hW]
    have := ownLit (w := (w.alloc (.cells #[.int .i64 k, .int .i64 y] 67)).alloc (.cells #[.int .i64 1, .int .i64 0] 67)) (base := w.heap.size) (n := 1) (e := 67) (sz := 2) [.int .i64 2, .int .i64 0] (by simp; omega) (by omega) rfl
    rw [show ((w.alloc (.cells #[.int .i64 k, .int .i64 y] 67)).alloc (.cells #[.int .i64 1, .int .i64 0] 67)).heap.size = w.heap.size + 1 + 1 by simp] at this
    exact this)
  have HPN : Hid (PR W (.slice (some ⟨w.heap.size + 1, 0, none⟩) 1 1) .none) := Lib.hid (OwnP.pr (t := .none) HON.out trivial)
  have HPE : Hid (PR W (.slice (some ⟨w.heap.size + 1 + 1, 0, none⟩) 1 1) .empty) := Lib.hid (OwnP.pr (t := .empty) HOE.out trivial)
  have HA := Lib.hid (hA.stay hBW); have HB := Lib.hid (hB.stay hBW); have HBW := Lib.hid hBW
  have HW := Lib.hid hW; have HK := Lib.hid hk; have HL := Lib.hid hl
  have HSZ : Hid (W.heap.size = w.heap.size + 1 + 1 + 1) := Lib.hid (by rw [hW]; simp)
  obtain ⟨c0, c9, f0, f1⟩ := blk2 K0.out
  clear hA hB hBW hW hk HON HOE hl
  go_enter Try.func105, Try.ntmps105
  rw [HW.out] at c0 c9
  go_upto_block 0 with fail
  rw [← HW.out] at c0 c9 ⊢
  clear HW
  go_cut [] from 15 to 97 (fun wx => Hid (Below W.heap.size W wx) ∧ Hid (R.flat = A ++ B ++ [(k, y)]))
  case first =>
    obtain ⟨hRw, hr⟩ := HK.out
    clear hRw HK
    rcases hr with ⟨rfl, rfl, hr⟩ | ⟨rfl, rfl, hr⟩ | ⟨rfl, rfl, hr⟩ | ⟨rfl, rfl, hr⟩ | ⟨rfl, rfl, hr⟩ | ⟨hr, rfl, rfl, hR⟩
    · obtain ⟨a, b, ha, hb, rfl, rfl, hR⟩ := hr
      have HPA : Hid (PR W _ a) := Lib.hid ⟨ha, HA.out⟩
      have HPB : Hid (PR W _ b) := Lib.hid ⟨hb, HB.out⟩
      have HR := Lib.hid hR
      clear ha hb hR HA HB c0 c9 f0 f1
      go_wp2_with fail
      refine (l5None_c _ a W HPA.out).mono ?_
      rintro e w1 ⟨b1, rfl, rfl, hb1⟩
      cases b1
      · have nb1 := Lib.hid (hbF hb1); clear hb1
        go_wp2_with fail
        refine (l5None_c _ b W HPB.out).mono ?_
        rintro e w1 ⟨b2, rfl, rfl, hb2⟩
        cases b2
        · have nb2 := Lib.hid (hbF hb2); clear hb2
          go_wp2_with fail
          refine (l5Empty_c _ a W HPA.out).mono ?_
          rintro e w1 ⟨b3, rfl, rfl, hb3⟩
          cases b3
          · have nb3 := Lib.hid (hbF hb3); clear hb3
            go_wp2_with fail
            refine (l5Empty_c _ b W HPB.out).mono ?_
            rintro e w1 ⟨b4, rfl, rfl, hb4⟩
            cases b4
            · have nb4 := Lib.hid (hbF hb4); clear hb4
              have HF : Hid (R.flat = a.flat ++ b.flat ++ [(4, 0)]) := Lib.hid (by rw [HR.out, (show a.mkJoin b = .join a b by unfold Re.mkJoin; rw [if_neg (fun h => h.elim nb1.out nb2.out), if_neg nb3.out, if_neg nb4.out])]; rfl)
              go_wp2_with fail
              go_meet
              exact ⟨Lib.hid (Below.refl _ _), HF⟩
            · have tb4 := hbT hb4; clear hb4
              have HE : Hid (R = a) := Lib.hid (by rw [HR.out]; unfold Re.mkJoin; rw [if_neg (fun h => h.elim nb1.out nb2.out), if_neg nb3.out, if_pos tb4])
              clear tb4
              go_wp2
              go_ret
              exact RE.mk (HBW.out.trans ((Below.refl _ _).mono HBW.out.size)) (by rw [HE.out]; exact HPA.out)
          · have tb3 := hbT hb3; clear hb3
            have HE : Hid (R = b) := Lib.hid (by rw [HR.out]; unfold Re.mkJoin; rw [if_neg (fun h => h.elim nb1.out nb2.out), if_pos tb3])
            clear tb3
            go_wp2
            go_ret
            exact RE.mk (HBW.out.trans ((Below.refl _ _).mono HBW.out.size)) (by rw [HE.out]; exact HPB.out)
        · have tb2 := hbT hb2; clear hb2
          have HE : Hid (R = .none) := Lib.hid (by rw [HR.out]; unfold Re.mkJoin; rw [if_pos (.inr tb2)])
          clear tb2
          go_wp2
          go_ret
          exact RE.mk (HBW.out.trans ((Below.refl _ _).mono HBW.out.size)) (by rw [HE.out]; exact HPN.out)
      · have tb1 := hbT hb1; clear hb1
        have HE : Hid (R = .none) := Lib.hid (by rw [HR.out]; unfold Re.mkJoin; rw [if_pos (.inl tb1)])
        clear tb1
        go_wp2
        go_ret
        exact RE.mk (HBW.out.trans ((Below.refl _ _).mono HBW.out.size)) (by rw [HE.out]; exact HPN.out)
    · obtain ⟨a, b, ha, hb, rfl, rfl, hR⟩ := hr
      have HPA : Hid (PR W _ a) := Lib.hid ⟨ha, HA.out⟩
      have HPB : Hid (PR W _ b) := Lib.hid ⟨hb, HB.out⟩
      have HR := Lib.hid hR
      clear ha hb hR HA HB c0 c9 f0 f1
      go_wp2_with fail
      refine (l5None_c _ a W HPA.out).mono ?_
      rintro e w1 ⟨b1, rfl, rfl, hb1⟩
      cases b1
      · have nb1 := Lib.hid (hbF hb1); clear hb1
        go_wp2_with fail
        refine (l5SameR_c _ _ a b W HPA.out HPB.out).mono ?_
        rintro e w2 ⟨b2, rfl, hq2, hb2⟩
        have HA2 := Lib.hid (HPA.out.stay hq2); have HB2 := Lib.hid (HPB.out.stay hq2)
        cases b2
        · have nb2 := Lib.hid (hbF hb2); clear hb2
          go_wp2_with fail
          refine (l5None_c _ b w2 HB2.out).mono ?_
          rintro e w1 ⟨b3, rfl, rfl, hb3⟩
          cases b3
          · have nb3 := Lib.hid (hbF hb3); clear hb3
            have HF : Hid (R.flat = a.flat ++ b.flat ++ [(5, 0)]) := Lib.hid (by rw [HR.out, (show a.mkEither b = .either a b by unfold Re.mkEither; rw [if_neg (fun h => h.elim nb1.out nb2.out), if_neg nb3.out])]; rfl)
            go_wp2_with fail
            go_meet
            exact ⟨Lib.hid hq2, HF⟩
          · have tb3 := hbT hb3; clear hb3
            have HE : Hid (R = a) := Lib.hid (by rw [HR.out]; unfold Re.mkEither; rw [if_neg (fun h => h.elim nb1.out nb2.out), if_pos tb3])
            clear tb3
            go_wp2
            go_ret
            exact RE.mk (HBW.out.trans (hq2.mono HBW.out.size)) (by rw [HE.out]; exact HA2.out)
        · have tb2 := hbT hb2; clear hb2
          have HE : Hid (R = b) := Lib.hid (by rw [HR.out]; unfold Re.mkEither; rw [if_pos (.inr tb2)])
          clear tb2
          go_wp2
          go_ret
          exact RE.mk (HBW.out.trans (hq2.mono HBW.out.size)) (by rw [HE.out]; exact HB2.out)
      · have tb1 := hbT hb1; clear hb1
        have HE : Hid (R = b) := Lib.hid (by rw [HR.out]; unfold Re.mkEither; rw [if_pos (.inl tb1)])
        clear tb1
        go_wp2
        go_ret
        exact RE.mk (HBW.out.trans ((Below.refl _ _).mono HBW.out.size)) (by rw [HE.out]; exact HPB.out)
    · obtain ⟨a, b, ha, hb, rfl, rfl, hR⟩ := hr
      have HPA : Hid (PR W _ a) := Lib.hid ⟨ha, HA.out⟩
      have HPB : Hid (PR W _ b) := Lib.hid ⟨hb, HB.out⟩
      have HR := Lib.hid hR
      clear ha hb hR HA HB c0 c9 f0 f1
      go_wp2_with fail
      refine (l5None_c _ a W HPA.out).mono ?_
      rintro e w1 ⟨b1, rfl, rfl, hb1⟩
      cases b1
      · have nb1 := Lib.hid (hbF hb1); clear hb1
        go_wp2_with fail
        refine (l5None_c _ b W HPB.out).mono ?_
        rintro e w1 ⟨b2, rfl, rfl, hb2⟩
        cases b2
        · have nb2 := Lib.hid (hbF hb2); clear hb2
          go_wp2_with fail
          refine (l5SameR_c _ _ a b W HPA.out HPB.out).mono ?_
          rintro e w2 ⟨b3, rfl, hq2, hb3⟩
          have HA2 := Lib.hid (HPA.out.stay hq2)
          cases b3
          · have nb3 := Lib.hid (hbF hb3); clear hb3
            have HF : Hid (R.flat = a.flat ++ b.flat ++ [(6, 0)]) := Lib.hid (by rw [HR.out, (show a.mkBoth b = .both a b by unfold Re.mkBoth; rw [if_neg (fun h => h.elim nb1.out nb2.out), if_neg nb3.out])]; rfl)
            go_wp2_with fail
            go_meet
            exact ⟨Lib.hid hq2, HF⟩
          · have tb3 := hbT hb3; clear hb3
            have HE : Hid (R = a) := Lib.hid (by rw [HR.out]; unfold Re.mkBoth; rw [if_neg (fun h => h.elim nb1.out nb2.out), if_pos tb3])
            clear tb3
            go_wp2
            go_ret
            exact RE.mk (HBW.out.trans (hq2.mono HBW.out.size)) (by rw [HE.out]; exact HA2.out)
        · have tb2 := hbT hb2; clear hb2
          have HE : Hid (R = .none) := Lib.hid (by rw [HR.out]; unfold Re.mkBoth; rw [if_pos (.inr tb2)])
          clear tb2
          go_wp2
          go_ret
          exact RE.mk (HBW.out.trans ((Below.refl _ _).mono HBW.out.size)) (by rw [HE.out]; exact HPN.out)
      · have tb1 := hbT hb1; clear hb1
        have HE : Hid (R = .none) := Lib.hid (by rw [HR.out]; unfold Re.mkBoth; rw [if_pos (.inl tb1)])
        clear tb1
        go_wp2
        go_ret
        exact RE.mk (HBW.out.trans ((Below.refl _ _).mono HBW.out.size)) (by rw [HE.out]; exact HPN.out)
    · obtain ⟨a, ha, rfl, rfl, hR⟩ := hr
      have HPA : Hid (PR W _ a) := Lib.hid ⟨ha, HA.out⟩
      have HR := Lib.hid hR
      clear c0 c9 f0 f1
      obtain ⟨bb, off, cap, m, hv, hm1, hm2, e0, e1⟩ := HPA.out.last
      injection hv with hv1 hv2 hv3
      subst hv1
      have hml := HL.out
      have hIm : IntKind.i64.wrap ((m + 1 : Nat) - 1 : Int) = (m : Int) := by rw [show (((m + 1 : Nat) : Int) - 1) = (m : Int) by omega]; exact IntWalk.i64_in _ (by omega)
      have hltm : (m : Int) < (m : Int) + 1 := by omega
      have hmb : m ≤ 1000000 := by omega
      have HPX : Hid (∀ x : Re, a = .not x → PR W (.slice (some ⟨bb, off, none⟩) m c1) x) := Lib.hid (by rintro x rfl; have h2 := HA.out; have h3 : m = x.flat.length := by { have := len_not x; unfold Re.len at this; omega }; rw [h3]; exact ⟨ha, PL0.front h2⟩)
      have hcm : m ≤ c1 := by have := Fl.cap HA.out; omega
      clear hm2 e1 hv3 hn1
      generalize a.flat.length = n1 at *
      subst hm1
      obtain ⟨tp, htp⟩ : ∃ tp, tp = a.top := ⟨_, rfl⟩
      rw [← htp] at e0
      have HTP := Lib.hid htp
      clear htp ha hR HA HB hv2 hml hn2
      by_cases h7 : tp = 7
      · have e7 : (tp == 7) = true := by simpa using h7
        have HX : Hid (∃ x, a = .not x) := Lib.hid (top_not (by rw [← HTP.out]; exact h7))
        obtain ⟨x, hx⟩ := HX.out
        have HE : Hid (R = x) := Lib.hid (by rw [HR.out, hx]; rfl)
        have HP := Lib.hid (HPX.out x hx)
        clear h7 hx HX
        go_wp2
        go_ret
        exact RE.mk (HBW.out.trans ((Below.refl _ _).mono HBW.out.size)) (by rw [HE.out]; exact HP.out)
      · have e7 : (tp == 7) = false := by simpa using h7
        have HN : Hid (a.mkNot = .not a) := Lib.hid (mkNot_no (by rw [← HTP.out]; exact h7))
        clear h7
        have HF : Hid (R.flat = a.flat ++ [] ++ [(7, 0)]) := Lib.hid (by rw [HR.out, HN.out, List.append_nil]; rfl)
        go_wp2_with fail
        go_meet
        exact ⟨Lib.hid (Below.refl _ _), HF⟩
    · obtain ⟨a, ha, rfl, rfl, hR⟩ := hr
      have HPA : Hid (PR W _ a) := Lib.hid ⟨ha, HA.out⟩
      have HR := Lib.hid hR
      clear c0 c9 f0 f1
      obtain ⟨bb, off, cap, m, hv, hm1, hm2, e0, e1⟩ := HPA.out.last
      injection hv with hv1 hv2 hv3
      subst hv1
      have hml := HL.out
      have hIm : IntKind.i64.wrap ((m + 1 : Nat) - 1 : Int) = (m : Int) := by rw [show (((m + 1 : Nat) : Int) - 1) = (m : Int) by omega]; exact IntWalk.i64_in _ (by omega)
      have hltm : (m : Int) < (m : Int) + 1 := by omega
      have hmb : m ≤ 1000000 := by omega
      clear hm2 e1 hv3 hn1
      generalize a.flat.length = n1 at *
      subst hm1
      have HPA2 : Hid (PR W (.slice (some ⟨bb, off, none⟩) (m + 1) c1) a) := HPA
      obtain ⟨tp, htp⟩ : ∃ tp, tp = a.top := ⟨_, rfl⟩
      rw [← htp] at e0
      have HTP := Lib.hid htp
      clear htp ha hR HA HB HPA hv2 hml hn2
      go_wp2_with fail
      refine (l5None_c _ a W HPA2.out).mono ?_
      rintro e w1 ⟨b1, rfl, rfl, hb1⟩
      cases b1
      · have nb1 := Lib.hid (hbF hb1); clear hb1
        go_wp2_with fail
        refine (l5Empty_c _ a W HPA2.out).mono ?_
        rintro e w1 ⟨b2, rfl, rfl, hb2⟩
        cases b2
        · have nb2 := Lib.hid (hbF hb2); clear hb2
          by_cases h8 : tp = 8
          · have e8 : (tp == 8) = true := by simpa using h8
            have HE : Hid (R = a) := Lib.hid (by obtain ⟨x, hx⟩ := top_star (show a.top = 8 by rw [← HTP.out]; exact h8); rw [HR.out, hx]; rfl)
            clear h8
            go_wp2
            go_ret
            exact RE.mk (HBW.out.trans ((Below.refl _ _).mono HBW.out.size)) (by rw [HE.out]; exact HPA2.out)
          · have e8 : (tp == 8) = false := by simpa using h8
            have HN : Hid (a.mkStar = .star a) := Lib.hid (mkStar_no (by rw [← HTP.out]; exact h8) nb1.out nb2.out)
            clear h8
            have HF : Hid (R.flat = a.flat ++ [] ++ [(8, 0)]) := Lib.hid (by rw [HR.out, HN.out, List.append_nil]; rfl)
            go_wp2_with fail
            go_meet
            exact ⟨Lib.hid (Below.refl _ _), HF⟩
        · have tb2 := hbT hb2; clear hb2
          have HE : Hid (R = .empty) := Lib.hid (by rw [HR.out, tb2]; rfl)
          clear tb2
          go_wp2
          go_ret
          exact RE.mk (HBW.out.trans ((Below.refl _ _).mono HBW.out.size)) (by rw [HE.out]; exact HPE.out)
      · have tb1 := hbT hb1; clear hb1
        have HE : Hid (R = .empty) := Lib.hid (by rw [HR.out, tb1]; rfl)
        clear tb1
        go_wp2
        go_ret
        exact RE.mk (HBW.out.trans ((Below.refl _ _).mono HBW.out.size)) (by rw [HE.out]; exact HPE.out)
    · rcases hr with rfl | rfl | rfl
      · have HF : Hid (R.flat = [] ++ [] ++ [(_, y)]) := Lib.hid hR
        clear c0 c9 f0 f1 hR
        go_wp2_with fail
        go_meet
        exact ⟨Lib.hid (Below.refl _ _), HF⟩
      · have HF : Hid (R.flat = [] ++ [] ++ [(_, y)]) := Lib.hid hR
        clear c0 c9 f0 f1 hR
        go_wp2_with fail
        go_meet
        exact ⟨Lib.hid (Below.refl _ _), HF⟩
      · have HF : Hid (R.flat = [] ++ [] ++ [(_, y)]) := Lib.hid hR
        clear c0 c9 f0 f1 hR
        go_wp2_with fail
        go_meet
        exact ⟨Lib.hid (Below.refl _ _), HF⟩
  case rest =>
    obtain ⟨hbx, hf⟩ := hcut
    generalize wc = wx at *
    have HKW : Hid (PL0 wx (.slice a1 A.length c1) A ∧ PL0 wx (.slice a2 B.length c2) B) := Lib.hid ⟨HA.out.stay hbx.out, HB.out.stay hbx.out⟩
    have HAx := Lib.hid HKW.out.1; have HBx := Lib.hid HKW.out.2
    have HK9 : Hid (∀ w', Below wx.heap.size wx w' → w'.cell? ⟨w.heap.size, 0, none⟩ = some (.int .i64 k) ∧ w'.cell? ⟨w.heap.size, 1, none⟩ = some (.int .i64 y)) := Lib.hid (fun w' hb => ⟨(blk2 (blkBel hb (blkBel hbx.out K0.out))).1, (blk2 (blkBel hb (blkBel hbx.out K0.out))).2.1⟩)
    have HRw := Lib.hid HK.out.1
    clear c0 c9 f0 f1 HK HKW HPN HPE HA HB K0
    have HK := HK9
    clear HK9
    go_wp2_with fail
    refine wp_region_inv2 [(2, 0), (2, 1), (4, 2), (4, 3), (6, 5), (7, 4), (7, 6), (8, 0), (8, 1), (8, 2), (8, 3), (8, 4), (8, 5), (8, 6), (8, 7)] (fun listed a w' => ∃ (b0 b1 b2 b3 b4 b5 b6 b7 b8 : Bool) (x6 x98 x100 x102 x104 x105 : Value) (r0 r1 : Option Rw), listed = #[b0, b1, b2, b3, b4, b5, b6, b7, b8] ∧ a = { tmps := #[.agg #[.int .i64 k, .int .i64 y], .slice a1 A.length c1, .slice a2 B.length c2, .pointer (some ⟨w.heap.size, 0, none⟩), undef, undef, x6, .slice (some ⟨w.heap.size + 1, 0, none⟩) 1 1, .slice (some ⟨w.heap.size + 1 + 1, 0, none⟩) 1 1, .agg #[.int .i64 1, .int .i64 0], .slice (some ⟨w.heap.size + 1, 0, none⟩) 1 1, .agg #[.int .i64 2, .int .i64 0], .slice (some ⟨w.heap.size + 1 + 1, 0, none⟩) 1 1, .pointer (some ⟨w.heap.size, 0, none⟩), .int .i64 k, u15, u16, u17, u18, u19, u20, u21, u22, u23, u24, u25, u26, u27, u28, u29, u30, u31, u32, u33, u34, u35, u36, u37, u38, u39, u40, u41, u42, u43, u44, u45, u46, u47, u48, u49, u50, u51, u52, u53, u54, u55, u56, u57, u58, u59, u60, u61, u62, u63, u64, u65, u66, u67, u68, u69, u70, u71, u72, u73, u74, u75, u76, u77, u78, u79, u80, u81, u82, u83, u84, u85, u86, u87, u88, u89, u90, u91, u92, u93, u94, u95, u96, u97, x98, cond b1 (.slice a1 A.length c1) (undef), x100, cond b3 (.slice a2 B.length c2) (undef), x102, cond b5 (.agg #[.int .i64 k, .int .i64 y]) (undef), x104, x105], defers := [] } ∧ Hid ((b0 = false → r0 = none) ∧ (b0 = true → ∃ (g : Nat) (c : Nat), x98 = .slice (some ⟨g, 0, none⟩) (0) c ∧ (b2 = false → r0 = some ⟨67, 2, x98, 0, []⟩)) ∧ (b2 = true → ∃ (g : Nat) (c : Nat), x100 = .slice (some ⟨g, 0, none⟩) (A.length) c ∧ (b4 = false → r0 = some ⟨67, 2, x100, A.length, ([] ++ cells2 A)⟩)) ∧ (b4 = true → ∃ (g : Nat) (c : Nat), x102 = .slice (some ⟨g, 0, none⟩) ((A.length + B.length)) c ∧ (b7 = false → r0 = some ⟨67, 2, x102, (A.length + B.length), ([] ++ cells2 A ++ cells2 B)⟩)) ∧ (b7 = true → ∃ (g : Nat) (c : Nat), x105 = .slice (some ⟨g, 0, none⟩) ((A.length + B.length + 1)) c ∧ r0 = some ⟨67, 2, x105, (A.length + B.length + 1), ([] ++ cells2 A ++ cells2 B ++ [Value.int .i64 k, Value.int .i64 y])⟩) ∧ (b6 = false → r1 = none) ∧ (b6 = true → ∃ (g : Nat) (c : Nat), x104 = .slice (some ⟨g, 0, none⟩) (1) c ∧ r1 = some ⟨67, 2, x104, 1, [Value.int .i64 k, Value.int .i64 y]⟩) ∧ (b8 = true → ∃ (g c : Nat), x6 = .slice (some ⟨g, 0, none⟩) (A.length + B.length + 1) c ∧ w'.ownsRow wx.heap.size 67 2 x6 (A.length + B.length + 1) ([] ++ cells2 A ++ cells2 B ++ [Value.int .i64 k, Value.int .i64 y]) ∧ Below wx.heap.size wx w') ∧ (b8 = false → Sr wx w' none [r0, r1]))) (fun G => ∀ (x6 x98 x100 x102 x104 x105 : Value) (w' : World), (∃ (g c : Nat), x6 = .slice (some ⟨g, 0, none⟩) (A.length + B.length + 1) c ∧ w'.ownsRow wx.heap.size 67 2 x6 (A.length + B.length + 1) ([] ++ cells2 A ++ cells2 B ++ [Value.int .i64 k, Value.int .i64 y]) ∧ Below wx.heap.size wx w') → G { tmps := #[.agg #[.int .i64 k, .int .i64 y], .slice a1 A.length c1, .slice a2 B.length c2, .pointer (some ⟨w.heap.size, 0, none⟩), undef, undef, x6, .slice (some ⟨w.heap.size + 1, 0, none⟩) 1 1, .slice (some ⟨w.heap.size + 1 + 1, 0, none⟩) 1 1, .agg #[.int .i64 1, .int .i64 0], .slice (some ⟨w.heap.size + 1, 0, none⟩) 1 1, .agg #[.int .i64 2, .int .i64 0], .slice (some ⟨w.heap.size + 1 + 1, 0, none⟩) 1 1, .pointer (some ⟨w.heap.size, 0, none⟩), .int .i64 k, u15, u16, u17, u18, u19, u20, u21, u22, u23, u24, u25, u26, u27, u28, u29, u30, u31, u32, u33, u34, u35, u36, u37, u38, u39, u40, u41, u42, u43, u44, u45, u46, u47, u48, u49, u50, u51, u52, u53, u54, u55, u56, u57, u58, u59, u60, u61, u62, u63, u64, u65, u66, u67, u68, u69, u70, u71, u72, u73, u74, u75, u76, u77, u78, u79, u80, u81, u82, u83, u84, u85, u86, u87, u88, u89, u90, u91, u92, u93, u94, u95, u96, u97, x98, .slice a1 A.length c1, x100, .slice a2 B.length c2, x102, .agg #[.int .i64 k, .int .i64 y], x104, x105], defers := [] } w') (by kernel_rfl) (by kernel_rfl) (by kernel_rfl) (by kernel_rfl) ?_ ?_ ?_ ?_
    · exact ⟨false, false, false, false, false, false, false, false, false, u6, undef, undef, undef, undef, undef, none, none, rfl, rfl, Lib.hid ⟨fun _ => rfl, nofun, nofun, nofun, nofun, fun _ => rfl, nofun, nofun, fun _ => Sr.start wx 2⟩⟩
    · refine StepsU.cons ?_ ?_
      · intro Q E0 listed a w' hI hM hk haft K hK
        obtain ⟨b0, b1, b2, b3, b4, b5, b6, b7, b8, x6, x98, x100, x102, x104, x105, r0, r1, hl, ha, HF⟩ := hI
        subst hl; subst ha
        obtain ⟨N0, P0_0, P0_1, P0_2, P0_3, N1, P1_0, Z, HS⟩ := HF.out
        clear HF
        have hk' : b0 = false := hk
        subst hk'
        clear hk
        obtain rfl : b2 = false := by cases b2 with | false => rfl | true => exact absurd (hM 2 0 rfl rfl) Bool.false_ne_true
        obtain rfl : b4 = false := by cases b4 with | false => rfl | true => exact absurd (hM 4 2 rfl rfl) Bool.false_ne_true
        obtain rfl : b7 = false := by cases b7 with | false => rfl | true => exact absurd (hM 7 4 rfl rfl) Bool.false_ne_true
        obtain rfl : b8 = false := by cases b8 with | false => rfl | true => exact absurd (hM 8 0 rfl rfl) Bool.false_ne_true
        clear haft
        have hSr := HS rfl
        have hBl := hSr.bel
        obtain ⟨q0, q1⟩ := HK.out w' hBl
        obtain rfl := N0 rfl
        go_simp
        exact hK _ _ ⟨true, b1, false, b3, false, b5, b6, false, false, _, .slice (some ⟨w'.heap.size, 0, none⟩) 0 0, _, _, _, _, some ⟨67, 2, .slice (some ⟨w'.heap.size, 0, none⟩) 0 0, 0, []⟩, _, rfl, rfl, Lib.hid ⟨nofun, fun _ => ⟨w'.heap.size, 0, rfl, fun _ => rfl⟩, nofun, nofun, nofun, N1, P1_0, nofun, fun _ => Sr.call [] [r1] ⟨67, 2, .slice (some ⟨w'.heap.size, 0, none⟩) 0 0, 0, []⟩ hSr ((Below.refl _ _).alloc (Nat.le_refl _) _) (ownLit (n := 0) [] (Nat.le_refl _) (by omega) rfl)⟩⟩
      refine StepsU.cons ?_ ?_
      · intro Q E0 listed a w' hI hM hk haft K hK
        obtain ⟨b0, b1, b2, b3, b4, b5, b6, b7, b8, x6, x98, x100, x102, x104, x105, r0, r1, hl, ha, HF⟩ := hI
        subst hl; subst ha
        obtain ⟨N0, P0_0, P0_1, P0_2, P0_3, N1, P1_0, Z, HS⟩ := HF.out
        clear HF
        have hk' : b1 = false := hk
        subst hk'
        clear hk
        obtain rfl : b2 = false := by cases b2 with | false => rfl | true => exact absurd (hM 2 1 rfl rfl) Bool.false_ne_true
        obtain rfl : b4 = false := by cases b4 with | false => rfl | true => exact absurd (hM 4 2 rfl rfl) Bool.false_ne_true
        obtain rfl : b7 = false := by cases b7 with | false => rfl | true => exact absurd (hM 7 4 rfl rfl) Bool.false_ne_true
        obtain rfl : b8 = false := by cases b8 with | false => rfl | true => exact absurd (hM 8 1 rfl rfl) Bool.false_ne_true
        clear haft
        have hSr := HS rfl
        have hBl := hSr.bel
        obtain ⟨q0, q1⟩ := HK.out w' hBl
        go_simp
        exact hK _ _ ⟨b0, true, false, b3, false, b5, b6, false, false, _, _, _, _, _, _, _, _, rfl, rfl, Lib.hid ⟨N0, P0_0, nofun, nofun, nofun, N1, P1_0, nofun, fun _ => hSr⟩⟩
      refine StepsU.cons ?_ ?_
      · intro Q E0 listed a w' hI hM hk haft K hK
        obtain ⟨b0, b1, b2, b3, b4, b5, b6, b7, b8, x6, x98, x100, x102, x104, x105, r0, r1, hl, ha, HF⟩ := hI
        subst hl; subst ha
        obtain ⟨N0, P0_0, P0_1, P0_2, P0_3, N1, P1_0, Z, HS⟩ := HF.out
        clear HF
        have hk' : b2 = false := hk
        subst hk'
        clear hk
        obtain rfl : b4 = false := by cases b4 with | false => rfl | true => exact absurd (hM 4 2 rfl rfl) Bool.false_ne_true
        obtain rfl : b7 = false := by cases b7 with | false => rfl | true => exact absurd (hM 7 4 rfl rfl) Bool.false_ne_true
        obtain rfl : b8 = false := by cases b8 with | false => rfl | true => exact absurd (hM 8 2 rfl rfl) Bool.false_ne_true
        obtain rfl : b0 = true := haft ⟨0, .data⟩ (by simp) rfl
        obtain rfl : b1 = true := haft ⟨1, .data⟩ (by simp) rfl
        clear haft
        obtain ⟨g0, c0, rfl, hr0⟩ := P0_0 rfl
        obtain rfl := hr0 rfl
        have hSr := HS rfl
        have hBl := hSr.bel
        obtain ⟨q0, q1⟩ := HK.out w' hBl
        have hrow := hSr.own _ (List.mem_append_right [] (List.mem_cons_self ..))
        refine stepAppX elPart (by decide) rfl (.tmp 98) (.tmp 99) rfl wx.heap.size g0 (0) c0 (A.length) _ _ (cells2 A) w' rfl rfl hrow ((HAx.out.stay hBl)) (by rw [length_cells2]; omega) (cells2_one _) (by have := HL.out; omega) hBl.size ?_
        intro g' c' w1 hoc hgc hat
        rw [Nat.zero_add] at hoc ⊢
        exact hK _ _ ⟨true, true, true, b3, false, b5, b6, false, false, _, _, .slice (some ⟨g', 0, none⟩) (A.length) c', _, _, _, some ⟨67, 2, .slice (some ⟨g', 0, none⟩) (A.length) c', A.length, ([] ++ cells2 A)⟩, _, rfl, rfl, Lib.hid ⟨nofun, fun _ => ⟨_, _, rfl, nofun⟩, fun _ => ⟨g', c', rfl, fun _ => rfl⟩, nofun, nofun, N1, P1_0, nofun, fun _ => Sr.grow [] [r1] ⟨67, 2, .slice (some ⟨g', 0, none⟩) (A.length) c', A.length, ([] ++ cells2 A)⟩ hSr rfl rfl hgc hoc hat⟩⟩
      refine StepsU.cons ?_ ?_
      · intro Q E0 listed a w' hI hM hk haft K hK
        obtain ⟨b0, b1, b2, b3, b4, b5, b6, b7, b8, x6, x98, x100, x102, x104, x105, r0, r1, hl, ha, HF⟩ := hI
        subst hl; subst ha
        obtain ⟨N0, P0_0, P0_1, P0_2, P0_3, N1, P1_0, Z, HS⟩ := HF.out
        clear HF
        have hk' : b3 = false := hk
        subst hk'
        clear hk
        obtain rfl : b4 = false := by cases b4 with | false => rfl | true => exact absurd (hM 4 3 rfl rfl) Bool.false_ne_true
        obtain rfl : b7 = false := by cases b7 with | false => rfl | true => exact absurd (hM 7 4 rfl rfl) Bool.false_ne_true
        obtain rfl : b8 = false := by cases b8 with | false => rfl | true => exact absurd (hM 8 3 rfl rfl) Bool.false_ne_true
        clear haft
        have hSr := HS rfl
        have hBl := hSr.bel
        obtain ⟨q0, q1⟩ := HK.out w' hBl
        go_simp
        exact hK _ _ ⟨b0, b1, b2, true, false, b5, b6, false, false, _, _, _, _, _, _, _, _, rfl, rfl, Lib.hid ⟨N0, P0_0, P0_1, nofun, nofun, N1, P1_0, nofun, fun _ => hSr⟩⟩
      refine StepsU.cons ?_ ?_
      · intro Q E0 listed a w' hI hM hk haft K hK
        obtain ⟨b0, b1, b2, b3, b4, b5, b6, b7, b8, x6, x98, x100, x102, x104, x105, r0, r1, hl, ha, HF⟩ := hI
        subst hl; subst ha
        obtain ⟨N0, P0_0, P0_1, P0_2, P0_3, N1, P1_0, Z, HS⟩ := HF.out
        clear HF
        have hk' : b4 = false := hk
        subst hk'
        clear hk
        obtain rfl : b7 = false := by cases b7 with | false => rfl | true => exact absurd (hM 7 4 rfl rfl) Bool.false_ne_true
        obtain rfl : b8 = false := by cases b8 with | false => rfl | true => exact absurd (hM 8 4 rfl rfl) Bool.false_ne_true
        obtain rfl : b2 = true := haft ⟨2, .data⟩ (by simp) rfl
        obtain rfl : b3 = true := haft ⟨3, .data⟩ (by simp) rfl
        obtain rfl : b0 = true := hM 2 0 rfl rfl
        obtain rfl : b1 = true := hM 2 1 rfl rfl
        clear haft
        obtain ⟨g2, c2, rfl, hr2⟩ := P0_1 rfl
        obtain rfl := hr2 rfl
        have hSr := HS rfl
        have hBl := hSr.bel
        obtain ⟨q0, q1⟩ := HK.out w' hBl
        have hrow := hSr.own _ (List.mem_append_right [] (List.mem_cons_self ..))
        refine stepAppX elPart (by decide) rfl (.tmp 100) (.tmp 101) rfl wx.heap.size g2 (A.length) c2 (B.length) _ _ (cells2 B) w' rfl rfl hrow ((HBx.out.stay hBl)) (by rw [length_cells2]; omega) (cells2_one _) (by have := HL.out; omega) hBl.size ?_
        intro g' c' w1 hoc hgc hat
        exact hK _ _ ⟨true, true, true, true, true, b5, b6, false, false, _, _, _, .slice (some ⟨g', 0, none⟩) ((A.length + B.length)) c', _, _, some ⟨67, 2, .slice (some ⟨g', 0, none⟩) ((A.length + B.length)) c', (A.length + B.length), ([] ++ cells2 A ++ cells2 B)⟩, _, rfl, rfl, Lib.hid ⟨nofun, fun h => let ⟨g, c, e, _⟩ := P0_0 h; ⟨g, c, e, nofun⟩, fun _ => ⟨_, _, rfl, nofun⟩, fun _ => ⟨g', c', rfl, fun _ => rfl⟩, nofun, N1, P1_0, nofun, fun _ => Sr.grow [] [r1] ⟨67, 2, .slice (some ⟨g', 0, none⟩) ((A.length + B.length)) c', (A.length + B.length), ([] ++ cells2 A ++ cells2 B)⟩ hSr rfl rfl hgc hoc hat⟩⟩
      refine StepsU.cons ?_ ?_
      · intro Q E0 listed a w' hI hM hk haft K hK
        obtain ⟨b0, b1, b2, b3, b4, b5, b6, b7, b8, x6, x98, x100, x102, x104, x105, r0, r1, hl, ha, HF⟩ := hI
        subst hl; subst ha
        obtain ⟨N0, P0_0, P0_1, P0_2, P0_3, N1, P1_0, Z, HS⟩ := HF.out
        clear HF
        have hk' : b5 = false := hk
        subst hk'
        clear hk
        obtain rfl : b6 = false := by cases b6 with | false => rfl | true => exact absurd (hM 6 5 rfl rfl) Bool.false_ne_true
        obtain rfl : b7 = false := by cases b7 with | false => rfl | true => exact absurd (hM 7 6 rfl rfl) Bool.false_ne_true
        obtain rfl : b8 = false := by cases b8 with | false => rfl | true => exact absurd (hM 8 5 rfl rfl) Bool.false_ne_true
        clear haft
        have hSr := HS rfl
        have hBl := hSr.bel
        obtain ⟨q0, q1⟩ := HK.out w' hBl
        go_simp
        exact hK _ _ ⟨b0, b1, b2, b3, b4, true, false, false, false, _, _, _, _, _, _, _, _, rfl, rfl, Lib.hid ⟨N0, P0_0, P0_1, P0_2, nofun, N1, nofun, nofun, fun _ => hSr⟩⟩
      refine StepsU.cons ?_ ?_
      · intro Q E0 listed a w' hI hM hk haft K hK
        obtain ⟨b0, b1, b2, b3, b4, b5, b6, b7, b8, x6, x98, x100, x102, x104, x105, r0, r1, hl, ha, HF⟩ := hI
        subst hl; subst ha
        obtain ⟨N0, P0_0, P0_1, P0_2, P0_3, N1, P1_0, Z, HS⟩ := HF.out
        clear HF
        have hk' : b6 = false := hk
        subst hk'
        clear hk
        obtain rfl : b7 = false := by cases b7 with | false => rfl | true => exact absurd (hM 7 6 rfl rfl) Bool.false_ne_true
        obtain rfl : b8 = false := by cases b8 with | false => rfl | true => exact absurd (hM 8 6 rfl rfl) Bool.false_ne_true
        obtain rfl : b5 = true := haft ⟨5, .data⟩ (by simp) rfl
        clear haft
        have hSr := HS rfl
        have hBl := hSr.bel
        obtain ⟨q0, q1⟩ := HK.out w' hBl
        obtain rfl := N1 rfl
        go_simp
        exact hK _ _ ⟨b0, b1, b2, b3, b4, true, true, false, false, _, _, _, _, .slice (some ⟨w'.heap.size, 0, none⟩) 1 1, _, _, some ⟨67, 2, .slice (some ⟨w'.heap.size, 0, none⟩) 1 1, 1, [Value.int .i64 k, Value.int .i64 y]⟩, rfl, rfl, Lib.hid ⟨N0, P0_0, P0_1, P0_2, nofun, nofun, fun _ => ⟨w'.heap.size, 1, rfl, rfl⟩, nofun, fun _ => Sr.call [r0] [] ⟨67, 2, .slice (some ⟨w'.heap.size, 0, none⟩) 1 1, 1, [Value.int .i64 k, Value.int .i64 y]⟩ hSr ((Below.refl _ _).alloc (Nat.le_refl _) _) (ownLit (n := 1) [Value.int .i64 k, Value.int .i64 y] (Nat.le_refl _) (by omega) rfl)⟩⟩
      refine StepsU.cons ?_ ?_
      · intro Q E0 listed a w' hI hM hk haft K hK
        obtain ⟨b0, b1, b2, b3, b4, b5, b6, b7, b8, x6, x98, x100, x102, x104, x105, r0, r1, hl, ha, HF⟩ := hI
        subst hl; subst ha
        obtain ⟨N0, P0_0, P0_1, P0_2, P0_3, N1, P1_0, Z, HS⟩ := HF.out
        clear HF
        have hk' : b7 = false := hk
        subst hk'
        clear hk
        obtain rfl : b8 = false := by cases b8 with | false => rfl | true => exact absurd (hM 8 7 rfl rfl) Bool.false_ne_true
        obtain rfl : b4 = true := haft ⟨4, .data⟩ (by simp) rfl
        obtain rfl : b6 = true := haft ⟨6, .data⟩ (by simp) rfl
        obtain rfl : b2 = true := hM 4 2 rfl rfl
        obtain rfl : b3 = true := hM 4 3 rfl rfl
        obtain rfl : b5 = true := hM 6 5 rfl rfl
        obtain rfl : b0 = true := hM 2 0 rfl rfl
        obtain rfl : b1 = true := hM 2 1 rfl rfl
        clear haft
        obtain ⟨g4, c4, rfl, hr4⟩ := P0_2 rfl
        obtain rfl := hr4 rfl
        obtain ⟨g6, c6, rfl, rfl⟩ := P1_0 rfl
        have hSr := HS rfl
        have hBl := hSr.bel
        obtain ⟨q0, q1⟩ := HK.out w' hBl
        have hrow := hSr.own _ (List.mem_append_right [] (List.mem_cons_self ..))
        refine stepAppX elPart (by decide) rfl (.tmp 102) (.tmp 104) rfl wx.heap.size g4 ((A.length + B.length)) c4 (1) _ _ [Value.int .i64 k, Value.int .i64 y] w' rfl rfl hrow (((ownFl (hSr.own _ (List.mem_cons_of_mem _ (List.mem_cons_self ..)))).fl)) (rfl) (by simp [Value.oneCell']) (by have := HL.out; omega) hBl.size ?_
        intro g' c' w1 hoc hgc hat
        exact hK _ _ ⟨true, true, true, true, true, true, true, true, false, _, _, _, _, _, .slice (some ⟨g', 0, none⟩) ((A.length + B.length + 1)) c', some ⟨67, 2, .slice (some ⟨g', 0, none⟩) ((A.length + B.length + 1)) c', (A.length + B.length + 1), ([] ++ cells2 A ++ cells2 B ++ [Value.int .i64 k, Value.int .i64 y])⟩, _, rfl, rfl, Lib.hid ⟨nofun, fun h => let ⟨g, c, e, _⟩ := P0_0 h; ⟨g, c, e, nofun⟩, fun h => let ⟨g, c, e, _⟩ := P0_1 h; ⟨g, c, e, nofun⟩, fun _ => ⟨_, _, rfl, nofun⟩, fun _ => ⟨g', c', rfl, rfl⟩, N1, fun _ => ⟨_, _, rfl, rfl⟩, nofun, fun _ => Sr.grow [] [_] ⟨67, 2, .slice (some ⟨g', 0, none⟩) ((A.length + B.length + 1)) c', (A.length + B.length + 1), ([] ++ cells2 A ++ cells2 B ++ [Value.int .i64 k, Value.int .i64 y])⟩ hSr rfl rfl hgc hoc hat⟩⟩
      refine StepsU.cons ?_ ?_
      · intro Q E0 listed a w' hI hM hk haft K hK
        obtain ⟨b0, b1, b2, b3, b4, b5, b6, b7, b8, x6, x98, x100, x102, x104, x105, r0, r1, hl, ha, HF⟩ := hI
        subst hl; subst ha
        obtain ⟨N0, P0_0, P0_1, P0_2, P0_3, N1, P1_0, Z, HS⟩ := HF.out
        clear HF
        have hk' : b8 = false := hk
        subst hk'
        clear hk
        obtain rfl : b7 = true := haft ⟨7, .data⟩ (by simp) rfl
        obtain rfl : b0 = true := haft ⟨0, .phase⟩ (by simp) rfl
        obtain rfl : b1 = true := haft ⟨1, .phase⟩ (by simp) rfl
        obtain rfl : b2 = true := haft ⟨2, .phase⟩ (by simp) rfl
        obtain rfl : b3 = true := haft ⟨3, .phase⟩ (by simp) rfl
        obtain rfl : b4 = true := haft ⟨4, .phase⟩ (by simp) rfl
        obtain rfl : b5 = true := haft ⟨5, .phase⟩ (by simp) rfl
        obtain rfl : b6 = true := haft ⟨6, .phase⟩ (by simp) rfl
        clear haft
        obtain ⟨g7, c7, rfl, rfl⟩ := P0_3 rfl
        obtain ⟨g6, c6, rfl, rfl⟩ := P1_0 rfl
        have hSr := HS rfl
        have hBl := hSr.bel
        obtain ⟨q0, q1⟩ := HK.out w' hBl
        go_simp
        exact hK _ _ ⟨true, true, true, true, true, true, true, true, true, _, _, _, _, _, _, _, _, rfl, rfl, Lib.hid ⟨N0, P0_0, P0_1, P0_2, fun _ => ⟨_, _, rfl, rfl⟩, N1, fun _ => ⟨_, _, rfl, rfl⟩, fun _ => ⟨_, _, rfl, by have h : w'.ownsRow wx.heap.size 67 2 (.slice (some ⟨g7, 0, none⟩) (A.length + B.length + 1) c7) (A.length + B.length + 1) ([] ++ cells2 A ++ cells2 B ++ [Value.int .i64 k, Value.int .i64 y]) := hSr.own _ (List.mem_cons_self ..); exact h, hBl⟩, nofun⟩⟩
      exact StepsU.nil
    · intro G0 hG0 listed a w' hI hall
      obtain ⟨b0, b1, b2, b3, b4, b5, b6, b7, b8, x6, x98, x100, x102, x104, x105, r0, r1, hl, ha, HF⟩ := hI
      subst hl; subst ha
      obtain rfl : b0 = true := hall 0 (by decide)
      obtain rfl : b1 = true := hall 1 (by decide)
      obtain rfl : b2 = true := hall 2 (by decide)
      obtain rfl : b3 = true := hall 3 (by decide)
      obtain rfl : b4 = true := hall 4 (by decide)
      obtain rfl : b5 = true := hall 5 (by decide)
      obtain rfl : b6 = true := hall 6 (by decide)
      obtain rfl : b7 = true := hall 7 (by decide)
      obtain rfl : b8 = true := hall 8 (by decide)
      exact hG0 _ _ _ _ _ _ _ (HF.out.2.2.2.2.2.2.2.1 rfl)
    · intro x6 x98 x100 x102 x104 x105 w' hFin
      obtain ⟨g, c, rfl, ho, hb⟩ := hFin
      have hb2 := hbx.out.trans (hb.mono hbx.out.size)
      have HP : Hid (PR w' (.slice (some ⟨g, 0, none⟩) (A.length + B.length + 1) c) R) := Lib.hid (OwnP.pr (base := wx.heap.size) (by rw [hf.out]; unfold OwnP; have e1 : cells2 (A ++ B ++ [(k, y)]) = [] ++ cells2 A ++ cells2 B ++ [.int .i64 k, .int .i64 y] := (by simp [cells2]); have e2 : (A ++ B ++ [(k, y)]).length = A.length + B.length + 1 := (by simp; omega); rw [e1, e2]; exact ho) HRw.out)
      go_wp2
      go_ret
      exact RE.mk (HBW.out.trans (hb2.mono HBW.out.size)) HP.out
end Go.Proofs.Ytbcjhiponbfbnaa
