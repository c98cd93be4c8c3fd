/- All matches of a text; replaced texts. Valid automata, valid texts. -/
import Derived.Test.YtcbhfopabgiiiaaGM
import Derived.Test.YtcbhfopabgiiiaaGA
set_option linter.unusedSimpArgs false
set_option linter.unusedVariables false
set_option linter.unusedSectionVars false
namespace Go.Proofs.Ytcbhfopabgiiiaa
open Go.RowKit
set_option maxRecDepth 100000
variable {S : Nat → Prop}

theorem find_some {D : DfaD} {s : ByteArray} : ∀ (n f : Nat) {p q : Int}, s.size + 1 - f = n → f ≤ s.size + 1 → find D s f = some (p, q) → (f : Int) ≤ p ∧ p ≤ q ∧ q ≤ s.size
  | 0, f, p, q, hn, hf, h => by
    obtain rfl : f = s.size + 1 := by omega
    rw [find_end] at h; cases h
  | n + 1, f, p, q, hn, hf, h => by
    have hb := lon_bd D s (f := f) (by omega)
    rw [find_step D s (by omega)] at h
    split at h
    · cases h; omega
    · have := find_some n (f + 1) (by omega) (by omega) h
      omega
/-- Where the search goes on behind a match. -/
def nxt (m : Int × Int) : Nat := if m.1 = m.2 then m.2.toNat + 1 else m.2.toNat
def fal (D : DfaD) (s : ByteArray) : Nat → Nat → List (Int × Int)
  | 0, _ => []
  | n + 1, f => match find D s f with
    | none => []
    | some m => m :: fal D s n (nxt m)
theorem nxt_bd {D : DfaD} {s : ByteArray} {f : Nat} {m : Int × Int} (hf : f ≤ s.size + 1) (h : find D s f = some m) : f < nxt m ∧ nxt m ≤ s.size + 1 := by
  obtain ⟨p, q⟩ := m
  have := find_some _ f rfl hf h
  unfold nxt; simp only; split <;> omega
theorem fal_fuel (D : DfaD) (s : ByteArray) : ∀ n m f, f ≤ s.size + 1 → s.size + 2 - f ≤ n → s.size + 2 - f ≤ m → fal D s n f = fal D s m f := by
  intro n
  induction n with
  | zero => intro m f hf h; omega
  | succ n ih =>
    intro m f hf h h'
    obtain ⟨m, rfl⟩ : ∃ k, m = k + 1 := ⟨m - 1, by omega⟩
    show (match find D s f with | none => [] | some m => m :: fal D s n (nxt m)) = (match find D s f with | none => [] | some x => x :: fal D s m (nxt x))
    cases hfd : find D s f with
    | none => rfl
    | some x =>
      have hb := nxt_bd hf hfd
      show x :: fal D s n (nxt x) = x :: fal D s m (nxt x)
      rw [ih m (nxt x) hb.2 (by omega) (by omega)]
/-- All matches from a place on. -/
def alls (D : DfaD) (s : ByteArray) (f : Nat) : List (Int × Int) := fal D s (s.size + 2 - f) f
theorem alls_none {D : DfaD} {s : ByteArray} {f : Nat} (hf : f ≤ s.size + 1) (h : find D s f = none) : alls D s f = [] := by
  unfold alls
  rw [show s.size + 2 - f = (s.size + 1 - f) + 1 by omega]
  show (match find D s f with | none => [] | some m => m :: fal D s _ (nxt m)) = []
  rw [h]
theorem alls_some {D : DfaD} {s : ByteArray} {f : Nat} {m : Int × Int} (hf : f ≤ s.size + 1) (h : find D s f = some m) : alls D s f = m :: alls D s (nxt m) := by
  have hb := nxt_bd hf h
  unfold alls
  rw [show s.size + 2 - f = (s.size + 1 - f) + 1 by omega]
  show (match find D s f with | none => [] | some m => m :: fal D s _ (nxt m)) = _
  rw [h]
  show m :: _ = _
  rw [fal_fuel D s (s.size + 1 - f) (s.size + 2 - nxt m) (nxt m) hb.2 (by omega) (by omega)]
/-- A list of matches that a call made. -/
def OwnS (w : World) (base : Nat) (v : Value) (xs : List (Int × Int)) : Prop := Own2 w base 44 v xs

set_option maxHeartbeats 800000 in
theorem findAll_c (vn ve : Value) (D : DfaD) (s : ByteArray) (w : World) (h : DfaR S w vn ve D) (hD : okD D) (hs : letS s ∧ s.size ≤ 30) :
    Calls Try.prog 87 #[.agg #[vn, ve], .string s] w (RVn w fun v w' => Own2 w' w.heap.size 44 v (alls D s 0)) := by
  obtain ⟨a, c, b, d, rfl, rfl, hn, hm⟩ := (h).shapes
  obtain ⟨W, hW⟩ : ∃ W, W = w.alloc (.cells #[.slice a D.1.length c, .slice b D.2.length d] 26) := ⟨_, rfl⟩
  have Hb0 : Hid (Below w.heap.size w W) := by rw [hW]; exact (Below.refl _ _).alloc (Nat.le_refl _) _
  have c0 : W.cell? ⟨w.heap.size, 0, none⟩ = some (.slice a D.1.length c) := by rw [hW, World.cell?_alloc_mark]; rfl
  have c1 : W.cell? ⟨w.heap.size, 1, none⟩ = some (.slice b D.2.length d) := by rw [hW, World.cell?_alloc_mark]; rfl
  have K0 : Hid (W.heap[w.heap.size]? = some (.cells #[.slice a D.1.length c, .slice b D.2.length d] 26 (0, 0))) := by rw [hW]; exact blkNew _ _ rfl
  have Hz : Hid (W.heap.size = w.heap.size + 1) := by rw [hW]; simp [Hid]
  have H := Lib.hid ((h).stay (kpB Hb0.out)); clear h
  have HW := Lib.hid hW; clear hW
  have hs2 := hs.2
  have Hl := Lib.hid hs
  have HD := Lib.hid hD
  clear hs hD c0 c1
  go_enter Try.func87, Try.ntmps87
  go_wp2
  rw [← HW.out]
  go_loopw [5, 6] (fun v i wr => ∃ (y : Nat) (xs : List (Int × Int)), y ≤ s.size + 1 ∧ i = .int .i64 y ∧ xs.length ≤ y ∧ Below W.heap.size W wr ∧ Hid (alls D s 0 = xs ++ alls D s y) ∧ Hid (Own2 wr W.heap.size 44 v xs)) (fun _ i _ => s.size + 2 - (intOf i).toNat)
  case atStart => exact ⟨0, [], by omega, rfl, by simp, Below.refl _ _, by simp [Hid], Own2.nil _ _ _⟩
  case round =>
    obtain ⟨y, xs, hy, rfl, hxl, hb, Ha, ho⟩ := hrel
    have k0 := blkBel hb K0.out
    obtain ⟨c0, c1, _, _⟩ := blk2 k0
    have hl0 : w.heap.size < wr.heap.size := (Array.getElem?_eq_some_iff.1 k0).1
    clear k0
    rcases hfd : find D s y with _ | ⟨p, q⟩
    · have Hn := Lib.hid (alls_none hy hfd)
      have Hfd := Lib.hid hfd; clear hfd
      go_wp2_with fail
      refine (find_c _ _ D s y wr (H.out.stay (kpB hb)) HD.out Hl.out hy).mono ?_
      rintro e w1 ⟨rfl, hb1⟩
      rw [Hfd.out]
      simp only [Option.getD_none, Option.isSome_none]
      have hB := Hb0.out.trans ((hb.trans (hb1.mono hb.size)).mono Hb0.out.size)
      have ho1 := Lib.hid (ho.out.stay hb1)
      have hB2 : Below w.heap.size w (w1.alloc (.cells #[.int .i64 0, .int .i64 0] 44)) := hB.alloc hB.size _
      have ho2 := Lib.hid (ho1.out.stay (w' := w1.alloc (.cells #[.int .i64 0, .int .i64 0] 44)) ((Below.refl _ _).alloc (Nat.le_refl _) _))
      clear hb1 hB ho1
      go_wp2
      go_ret
      exact RVn.mk hB2 (by rw [Ha.out, Hn.out, List.append_nil]; exact ownBase ho2.out Hb0.out.size)
    · have hbd := find_some _ y rfl hy hfd
      have hnb := nxt_bd hy hfd
      have Hn := Lib.hid (alls_some hy hfd)
      have Hfd := Lib.hid hfd; clear hfd
      obtain ⟨p, rfl⟩ : ∃ k : Nat, p = (k : Int) := ⟨p.toNat, by omega⟩
      obtain ⟨q, rfl⟩ : ∃ k : Nat, q = (k : Int) := ⟨q.toNat, by omega⟩
      have Hnx : Hid (nxt ((p : Int), (q : Int)) = if p = q then q + 1 else q) := by
        by_cases h : p = q
        · subst h; simp [nxt, Hid]
        · have h' : (p : Int) ≠ (q : Int) := by omega
          simp [nxt, Hid, h, h']
      go_wp2_with fail
      refine (find_c _ _ D s y wr (H.out.stay (kpB hb)) HD.out Hl.out hy).mono ?_
      rintro e w1 ⟨rfl, hb1⟩
      rw [Hfd.out]
      simp only [Option.getD_some, Option.isSome_some]
      have hB := hb.trans (hb1.mono hb.size)
      have ho1 := Lib.hid (ho.out.stay hb1)
      obtain ⟨W5, hW5⟩ : ∃ W5, W5 = w1.alloc (.cells #[.int .i64 p, .int .i64 q] 44) := ⟨_, rfl⟩
      have hb5 : Below w1.heap.size w1 W5 := by rw [hW5]; exact (Below.refl _ _).alloc (Nat.le_refl _) _
      have K5 : Hid (W5.heap[w1.heap.size]? = some (.cells #[.int .i64 p, .int .i64 q] 44 (0, 0))) := by rw [hW5]; exact blkNew _ _ rfl
      have ho5 := Lib.hid (ho1.out.stay hb5)
      have hB5 := hB.trans (hb5.mono hB.size)
      have hwW : W.heap.size ≤ W5.heap.size := hB5.size
      have hne5 : some w1.heap.size ≠ u5.ownBlock := fun e => by
        have := (World.ownsRow.lt ho1.out _ e.symm).2; omega
      have Hne5 := Lib.hid hne5; clear hne5
      have HB5 := Lib.hid hB5; clear hB5
      have HwW := Lib.hid hwW; clear hwW
      clear hb1 hb5 hB ho ho1
      subst hW5
      by_cases hpq : p = q
      all_goals
        have hn2 := Hnx.out
        first | rw [if_pos hpq] at hn2 | rw [if_neg hpq] at hn2
        have Hn2 := Lib.hid hn2; clear hn2
        have hbeq : ((p : Int) == (q : Int)) = decide (p = q) := by
          by_cases h : p = q
          · subst h; simp
          · have h' : (p : Int) ≠ (q : Int) := by omega
            simp [h, h']
        first | rw [decide_eq_true hpq] at hbeq | rw [decide_eq_false hpq] at hbeq
        have Hpq := Lib.hid hpq; clear hpq
        go_wp2_with (at_builtin; refine app2 elSpan (by decide) rfl (.tmp 19) (.tmp 21) rfl W.heap.size _ xs _ _ _ (by simp) rfl rfl ho5.out (by omega) HwW.out ?_; intro v1 w6 h1 hg1; have k6 := blkGrow hg1 K5.out Hne5.out; obtain ⟨d0, d1, _, _⟩ := blk2 k6)
        have hB6 : Below W.heap.size W w6 := HB5.out.grown hg1 HB5.out.size (fun k hk => (World.ownsRow.lt ho5.out k hk).1)
        go_roundw
        case rel => exact ⟨nxt ((p : Int), (q : Int)), xs ++ [((p : Int), (q : Int))], by omega, by rw [Hn2.out] <;> go_num, by simp; omega, hB6, by rw [Ha.out, Hn.out]; simp [Hid], h1⟩
        case measure => simp [intOf]; have := Hn2.out; omega
open Classical in
/-- All matches, if all is valid. -/
noncomputable def allv (D : DfaD) (s : ByteArray) : List (Int × Int) := if okD D ∧ (letS s ∧ s.size ≤ 30) then alls D s 0 else []
theorem allv_yes {D : DfaD} {s : ByteArray} (h1 : okD D) (h2 : letS s ∧ s.size ≤ 30) : allv D s = alls D s 0 := by unfold allv; rw [if_pos ⟨h1, h2⟩]
theorem allv_no1 {D : DfaD} {s : ByteArray} (h : ¬ okD D) : allv D s = [] := by unfold allv; rw [if_neg fun hh => h hh.1]
theorem allv_no2 {D : DfaD} {s : ByteArray} (h : ¬ (letS s ∧ s.size ≤ 30)) : allv D s = [] := by unfold allv; rw [if_neg fun hh => h hh.2]
set_option maxHeartbeats 400000 in
theorem FindAll_c (vn ve : Value) (D : DfaD) (s : ByteArray) (w : World) (h : DfaR S w vn ve D) (hs : s.size ≤ maxLen) :
    Calls Try.prog 27 #[.agg #[vn, ve], .string s] w (RVn w fun v w' => Own2 w' w.heap.size 44 v (allv D s)) := by
  obtain ⟨a, c, b, d, rfl, rfl, hn, hm⟩ := (h).shapes
  obtain ⟨W, hW⟩ : ∃ W, W = w.alloc (.cells #[.slice a D.1.length c, .slice b D.2.length d] 26) := ⟨_, rfl⟩
  have Hb0 : Hid (Below w.heap.size w W) := by rw [hW]; exact (Below.refl _ _).alloc (Nat.le_refl _) _
  have c0 : W.cell? ⟨w.heap.size, 0, none⟩ = some (.slice a D.1.length c) := by rw [hW, World.cell?_alloc_mark]; rfl
  have c1 : W.cell? ⟨w.heap.size, 1, none⟩ = some (.slice b D.2.length d) := by rw [hW, World.cell?_alloc_mark]; rfl
  have K0 : Hid (W.heap[w.heap.size]? = some (.cells #[.slice a D.1.length c, .slice b D.2.length d] 26 (0, 0))) := by rw [hW]; exact blkNew _ _ rfl
  have Hz : Hid (W.heap.size = w.heap.size + 1) := by rw [hW]; simp [Hid]
  have H := Lib.hid ((h).stay (kpB Hb0.out)); clear h
  have HW := Lib.hid hW; clear hW
  have hbs := Hb0.out.size
  go_enter Try.func27, Try.ntmps27
  go_wp2_with fail
  rw [← HW.out]
  refine (DfaValid_c _ _ D W H.out).mono ?_
  rintro e w1 ⟨b1, rfl, hb1, hv1⟩
  have hB := Hb0.out.trans (hb1.mono hbs)
  obtain ⟨d0, d1, _, _⟩ := blk2 (blkBel hb1 K0.out)
  cases b1
  · have hp := Lib.hid (hbF hv1); clear hv1
    go_wp2
    go_ret
    exact RVn.mk hB (by rw [allv_no1 hp.out]; exact Own2.nil _ _ _)
  · have hp1 := Lib.hid (hbT hv1); clear hv1
    go_wp2_with fail
    refine (TextValid_c s _ hs).mono ?_
    rintro e w2 ⟨b2, rfl, rfl, hv2⟩
    cases b2
    · have hp := Lib.hid (hbF hv2); clear hv2
      go_wp2
      go_ret
      exact RVn.mk hB (by rw [allv_no2 hp.out]; exact Own2.nil _ _ _)
    · have hp2 := Lib.hid (hbT hv2); clear hv2
      go_wp2_with fail
      refine (findAll_c _ _ D s w1 (H.out.stay (kpB hb1)) hp1.out hp2.out).mono ?_
      rintro e w2 ⟨v, rfl, hb2, ho⟩
      have hB2 := hB.trans (hb2.mono hB.size)
      have hbs1 := hB.size
      clear hb2 hB hb1
      go_wp2
      go_ret
      exact RVn.mk hB2 (by rw [allv_yes hp1.out hp2.out]; exact ownBase ho.out hbs1)
set_option maxHeartbeats 400000 in
theorem sFindAll_no (vn ve : Value) (D : DfaD) (s : ByteArray) (w : World) (h : DfaR S w vn ve D) (hs : s.size ≤ maxLen) (hv : ¬ (okD D ∧ (letS s ∧ s.size ≤ 30))) :
    Calls Try.prog 28 #[.agg #[vn, ve], .string s] w (RVn w fun v w' => Own2 w' w.heap.size 44 v []) := by
  have HV := Lib.hid hv; clear hv
  obtain ⟨a, c, b, d, rfl, rfl, hn, hm⟩ := (h).shapes
  obtain ⟨W, hW⟩ : ∃ W, W = w.alloc (.cells #[.slice a D.1.length c, .slice b D.2.length d] 26) := ⟨_, rfl⟩
  have Hb0 : Hid (Below w.heap.size w W) := by rw [hW]; exact (Below.refl _ _).alloc (Nat.le_refl _) _
  have c0 : W.cell? ⟨w.heap.size, 0, none⟩ = some (.slice a D.1.length c) := by rw [hW, World.cell?_alloc_mark]; rfl
  have c1 : W.cell? ⟨w.heap.size, 1, none⟩ = some (.slice b D.2.length d) := by rw [hW, World.cell?_alloc_mark]; rfl
  have K0 : Hid (W.heap[w.heap.size]? = some (.cells #[.slice a D.1.length c, .slice b D.2.length d] 26 (0, 0))) := by rw [hW]; exact blkNew _ _ rfl
  have Hz : Hid (W.heap.size = w.heap.size + 1) := by rw [hW]; simp [Hid]
  have H := Lib.hid ((h).stay (kpB Hb0.out)); clear h
  have HW := Lib.hid hW; clear hW
  have hbs := Hb0.out.size
  obtain ⟨W2, hW2⟩ : ∃ W2, W2 = W.alloc (.cells #[] 44) := ⟨_, rfl⟩
  have hbw : Below W.heap.size W W2 := by rw [hW2]; exact (Below.refl _ _).alloc (Nat.le_refl _) _
  have HO : Hid (Own2 W2 w.heap.size 44 (.slice (some ⟨w.heap.size + 1, 0, none⟩) 0 0) []) := by rw [hW2, ← Hz.out]; exact ownLit (n := 0) [] hbs (by omega) rfl
  have K2 := Lib.hid (blkBel hbw K0.out)
  have H2 := Lib.hid (H.out.stay (kpB hbw))
  have Hb2 : Hid (Below w.heap.size w W2) := Hb0.out.trans (hbw.mono Hb0.out.size)
  have HW2 := Lib.hid hW2; clear hW2 hbw H c0 c1
  obtain ⟨c0, c1, _, _⟩ := blk2 K2.out
  go_enter Try.func28, Try.ntmps28
  go_wp2_with fail
  rw [← HW.out, ← HW2.out]
  go_loopw [5, 6] (fun v i wr => i = .int .i64 0 ∧ v = .slice (some ⟨w.heap.size + 1, 0, none⟩) 0 0 ∧ wr = W2) (fun _ i _ => 0)
  case atStart => exact ⟨rfl, rfl, rfl⟩
  case round =>
    obtain ⟨rfl, rfl, rfl⟩ := hrel
    go_wp2_with fail
    refine (sDfaValid_c _ _ D _ H2.out).mono ?_
    rintro e w1 ⟨b1, rfl, hb1, hv1⟩
    have hB := Hb2.out.trans (hb1.mono Hb2.out.size)
    have ho := Lib.hid (HO.out.stay hb1)
    clear hb1
    cases b1
    · clear hv1
      go_wp2
      go_ret
      exact RVn.mk hB ho.out
    · have hp1 := Lib.hid (hbT hv1); clear hv1
      go_wp2_with fail
      refine (sTextValid_c s _ hs).mono ?_
      rintro e w2 ⟨b2, rfl, rfl, hv2⟩
      cases b2
      · clear hv2
        go_wp2
        go_ret
        exact RVn.mk hB ho.out
      · exact (HV.out ⟨hp1.out, hbT hv2⟩).elim
set_option maxHeartbeats 1000000 in
theorem sFindAll_yes (vn ve : Value) (D : DfaD) (s : ByteArray) (w : World) (h : DfaR S w vn ve D) (hD : okD D) (hs : letS s ∧ s.size ≤ 30) :
    Calls Try.prog 28 #[.agg #[vn, ve], .string s] w (RVn w fun v w' => Own2 w' w.heap.size 44 v (alls D s 0)) := by
  have hsm : s.size ≤ maxLen := by have := hs.2; unfold maxLen; omega
  obtain ⟨a, c, b, d, rfl, rfl, hn, hm⟩ := (h).shapes
  obtain ⟨W, hW⟩ : ∃ W, W = w.alloc (.cells #[.slice a D.1.length c, .slice b D.2.length d] 26) := ⟨_, rfl⟩
  have Hb0 : Hid (Below w.heap.size w W) := by rw [hW]; exact (Below.refl _ _).alloc (Nat.le_refl _) _
  have c0 : W.cell? ⟨w.heap.size, 0, none⟩ = some (.slice a D.1.length c) := by rw [hW, World.cell?_alloc_mark]; rfl
  have c1 : W.cell? ⟨w.heap.size, 1, none⟩ = some (.slice b D.2.length d) := by rw [hW, World.cell?_alloc_mark]; rfl
  have K0 : Hid (W.heap[w.heap.size]? = some (.cells #[.slice a D.1.length c, .slice b D.2.length d] 26 (0, 0))) := by rw [hW]; exact blkNew _ _ rfl
  have Hz : Hid (W.heap.size = w.heap.size + 1) := by rw [hW]; simp [Hid]
  have H := Lib.hid ((h).stay (kpB Hb0.out)); clear h
  have HW := Lib.hid hW; clear hW
  have hs2 := hs.2
  have Hl := Lib.hid hs
  have HD := Lib.hid hD
  clear hs hD
  have hbs := Hb0.out.size
  obtain ⟨W2, hW2⟩ : ∃ W2, W2 = W.alloc (.cells #[] 44) := ⟨_, rfl⟩
  have hbw : Below W.heap.size W W2 := by rw [hW2]; exact (Below.refl _ _).alloc (Nat.le_refl _) _
  have HO : Hid (Own2 W2 W.heap.size 44 (.slice (some ⟨w.heap.size + 1, 0, none⟩) 0 0) []) := by rw [hW2, ← Hz.out]; exact ownLit (n := 0) [] (Nat.le_refl _) (by omega) rfl
  have Hbw := Lib.hid hbw
  have HW2 := Lib.hid hW2; clear hW2 hbw c0 c1
  go_enter Try.func28, Try.ntmps28
  go_wp2_with fail
  rw [← HW.out, ← HW2.out]
  go_loopw [5, 6] (fun v i wr => ∃ (y : Nat) (xs : List (Int × Int)), y ≤ s.size + 1 ∧ i = .int .i64 y ∧ xs.length ≤ y ∧ Below W.heap.size W wr ∧ Hid (alls D s 0 = xs ++ alls D s y) ∧ Hid (Own2 wr W.heap.size 44 v xs)) (fun _ i _ => s.size + 2 - (intOf i).toNat)
  case atStart => exact ⟨0, [], by omega, rfl, by simp, Hbw.out, by simp [Hid], HO⟩
  case round =>
    obtain ⟨y, xs, hy, rfl, hxl, hb, Ha, ho⟩ := hrel
    obtain ⟨c0, c1, _, _⟩ := blk2 (blkBel hb K0.out)
    go_wp2_with fail
    refine (sDfaValid_c _ _ D _ (H.out.stay (kpB hb))).mono ?_
    rintro e w1 ⟨b1, rfl, hb1, hv1⟩
    cases b1
    · exact (hbF hv1 HD.out).elim
    clear hv1
    go_wp2_with fail
    refine (sTextValid_c s _ hsm).mono ?_
    rintro e w2 ⟨b2, rfl, rfl, hv2⟩
    cases b2
    · exact (hbF hv2 Hl.out).elim
    clear hv2 c0 c1
    have ho1 := Lib.hid (ho.out.stay hb1)
    have hbb := hb.trans (hb1.mono hb.size)
    clear hb hb1 ho
    have k0 := blkBel hbb K0.out
    obtain ⟨c0, c1, _, _⟩ := blk2 k0
    have hl0 : w.heap.size < w1.heap.size := (Array.getElem?_eq_some_iff.1 k0).1
    clear k0
    by_cases hle : y ≤ s.size
    · rcases hfd : find D s y with _ | ⟨p, q⟩
      · have Hn := Lib.hid (alls_none hy hfd)
        have Hfd := Lib.hid hfd; clear hfd
        go_wp2_with fail
        refine (sFindFirst_yes _ _ D s y w1 (H.out.stay (kpB hbb)) ⟨HD.out, Hl.out, hy⟩ hle).mono ?_
        rintro e w3 ⟨rfl, hb3⟩
        rw [Hfd.out]
        simp only [Option.getD_none, Option.isSome_none]
        have hB := Hb0.out.trans ((hbb.trans (hb3.mono hbb.size)).mono Hb0.out.size)
        have ho3 := Lib.hid (ho1.out.stay hb3)
        have hB2 : Below w.heap.size w (w3.alloc (.cells #[.int .i64 0, .int .i64 0] 44)) := hB.alloc hB.size _
        have ho2 := Lib.hid (ho3.out.stay (w' := w3.alloc (.cells #[.int .i64 0, .int .i64 0] 44)) ((Below.refl _ _).alloc (Nat.le_refl _) _))
        clear hb3 hB ho1 ho3
        go_wp2
        go_ret
        exact RVn.mk hB2 (by rw [Ha.out, Hn.out, List.append_nil]; exact ownBase ho2.out hbs)
      · have hbd := find_some _ y rfl hy hfd
        have hnb := nxt_bd hy hfd
        have Hn := Lib.hid (alls_some hy hfd)
        have Hfd := Lib.hid hfd; clear hfd
        obtain ⟨p, rfl⟩ : ∃ k : Nat, p = (k : Int) := ⟨p.toNat, by omega⟩
        obtain ⟨q, rfl⟩ : ∃ k : Nat, q = (k : Int) := ⟨q.toNat, by omega⟩
        have Hnx : Hid (nxt ((p : Int), (q : Int)) = if p = q then q + 1 else q) := by
          by_cases h : p = q
          · subst h; simp [nxt, Hid]
          · have h' : (p : Int) ≠ (q : Int) := by omega
            simp [nxt, Hid, h, h']
        go_wp2_with fail
        refine (sFindFirst_yes _ _ D s y w1 (H.out.stay (kpB hbb)) ⟨HD.out, Hl.out, hy⟩ hle).mono ?_
        rintro e w3 ⟨rfl, hb3⟩
        rw [Hfd.out]
        simp only [Option.getD_some, Option.isSome_some]
        have hB := hbb.trans (hb3.mono hbb.size)
        have ho3 := Lib.hid (ho1.out.stay hb3)
        obtain ⟨W5, hW5⟩ : ∃ W5, W5 = w3.alloc (.cells #[.int .i64 p, .int .i64 q] 44) := ⟨_, rfl⟩
        have hb5 : Below w3.heap.size w3 W5 := by rw [hW5]; exact (Below.refl _ _).alloc (Nat.le_refl _) _
        have K5 : Hid (W5.heap[w3.heap.size]? = some (.cells #[.int .i64 p, .int .i64 q] 44 (0, 0))) := by rw [hW5]; exact blkNew _ _ rfl
        have ho5 := Lib.hid (ho3.out.stay hb5)
        have hB5 := hB.trans (hb5.mono hB.size)
        have hwW : W.heap.size ≤ W5.heap.size := hB5.size
        have hne5 : some w3.heap.size ≠ u5.ownBlock := fun e => by
          have := (World.ownsRow.lt ho3.out _ e.symm).2; omega
        have Hne5 := Lib.hid hne5; clear hne5
        have HB5 := Lib.hid hB5; clear hB5
        have HwW := Lib.hid hwW; clear hwW
        clear hb3 hb5 hB ho1 ho3 hbb
        subst hW5
        by_cases hpq : p = q
        all_goals
          have hn2 := Hnx.out
          first | rw [if_pos hpq] at hn2 | rw [if_neg hpq] at hn2
          have Hn2 := Lib.hid hn2; clear hn2
          have hbeq : ((p : Int) == (q : Int)) = decide (p = q) := by
            by_cases h : p = q
            · subst h; simp
            · have h' : (p : Int) ≠ (q : Int) := by omega
              simp [h, h']
          first | rw [decide_eq_true hpq] at hbeq | rw [decide_eq_false hpq] at hbeq
          have Hpq := Lib.hid hpq; clear hpq
          go_wp2_with (at_builtin; refine app2 elSpan (by decide) rfl (.tmp 32) (.tmp 34) rfl W.heap.size _ xs _ _ _ (by simp) rfl rfl ho5.out (by omega) HwW.out ?_; intro v1 w6 h1 hg1; have k6 := blkGrow hg1 K5.out Hne5.out; obtain ⟨d0, d1, _, _⟩ := blk2 k6)
          have hB6 : Below W.heap.size W w6 := HB5.out.grown hg1 HB5.out.size (fun k hk => (World.ownsRow.lt ho5.out k hk).1)
          go_roundw
          case rel => exact ⟨nxt ((p : Int), (q : Int)), xs ++ [((p : Int), (q : Int))], by omega, by rw [Hn2.out] <;> go_num, by simp; omega, hB6, by rw [Ha.out, Hn.out]; simp [Hid], h1⟩
          case measure => simp [intOf]; have := Hn2.out; omega
    · obtain rfl : y = s.size + 1 := by omega
      have Hn := Lib.hid (alls_none hy (find_end D s))
      have hB := Hb0.out.trans (hbb.mono hbs)
      go_wp2
      go_ret
      exact RVn.mk hB (by rw [Ha.out, Hn.out, List.append_nil]; exact ownBase ho1.out hbs)
theorem sFindAll_c (vn ve : Value) (D : DfaD) (s : ByteArray) (w : World) (h : DfaR S w vn ve D) (hs : s.size ≤ maxLen) :
    Calls Try.prog 28 #[.agg #[vn, ve], .string s] w (RVn w fun v w' => Own2 w' w.heap.size 44 v (allv D s)) := by
  by_cases hv : okD D ∧ (letS s ∧ s.size ≤ 30)
  · rw [allv_yes hv.1 hv.2]; exact sFindAll_yes vn ve D s w h hv.1 hv.2
  · have : allv D s = [] := by unfold allv; rw [if_neg hv]
    rw [this]; exact sFindAll_no vn ve D s w h hs hv
end Go.Proofs.Ytcbhfopabgiiiaa
