/- BuildNfa: the reference's answer. -/
import Derived.Test.YtbcjhiponbfbnaaFtq
import Derived.Test.YtbcjhiponbfbnaaBnd
import Derived.Test.YtbcjhiponbfbnaaSts
import Derived.Test.YtbcjhiponbfbnaaSjn
import Derived.Test.YtbcjhiponbfbnaaSei
set_option linter.unusedSimpArgs false
set_option linter.unusedVariables false
set_option linter.unusedSectionVars false
namespace Go.Proofs.Ytbcjhiponbfbnaa
open Go.RowKit
set_option maxRecDepth 100000
variable {S T : Nat → Prop}
theorem lastC2 {e0 : List (Int × Int)} {x y : Int} {ad : Option Addr} {n cap : Nat} {w : World} (h : Pairs S w (.slice ad n cap) (e0 ++ [(x, y)])) : ∃ b off, ad = some ⟨b, off, none⟩ ∧ ∀ w', Below w.heap.size w w' → w'.cell? ⟨b, off + e0.length * 2, none⟩ = some (.int .i64 x) ∧ w'.cell? ⟨b, off + e0.length * 2 + 1, none⟩ = some (.int .i64 y) := by
  obtain ⟨b, off, rfl, _, _⟩ := h.at (k := e0.length) (by simp)
  refine ⟨b, off, rfl, fun w' hb => ?_⟩
  obtain ⟨b', off', e, c0, c1⟩ := (h.stay (kpB hb)).at (k := e0.length) (by simp)
  cases e
  rw [List.getElem_concat_length rfl] at c0 c1
  exact ⟨c0, c1⟩
theorem plainE_part {a b : List (Int × Int)} (h : plainE (a ++ b)) : plainE a ∧ plainE b := ⟨fun p hp => h p (List.mem_append_left _ hp), fun p hp => h p (List.mem_append_right _ hp)⟩
theorem litTwo (w4 : World) (B : Nat) (hB : B ≤ w4.heap.size) (x y : Int) : OwnI ((w4.alloc (.cells #[.int .i64 x] 3)).alloc (.cells #[.int .i64 y] 3)) B (.slice (some ⟨w4.heap.size, 0, none⟩) 1 1) [x] ∧
    OwnI ((w4.alloc (.cells #[.int .i64 x] 3)).alloc (.cells #[.int .i64 y] 3)) B (.slice (some ⟨w4.heap.size + 1, 0, none⟩) 1 1) [y] ∧ ∀ b, (Value.slice (some ⟨w4.heap.size, 0, none⟩) 1 1).ownBlock = some b → (Value.slice (some ⟨w4.heap.size + 1, 0, none⟩) 1 1).ownBlock ≠ some b := by
  refine ⟨ownStay (ownLit (n := 1) [_] hB (by omega) rfl) ((Below.refl _ _).alloc (Nat.le_refl _) _), ?_, fun b h1 h2 => ?_⟩
  · have : OwnI ((w4.alloc (.cells #[.int .i64 x] 3)).alloc (.cells #[.int .i64 y] 3)) B (.slice (some ⟨(w4.alloc (.cells #[.int .i64 x] 3)).heap.size, 0, none⟩) 1 1) [y] := ownLit (n := 1) [_] (by simp; omega) (by omega) rfl
    rw [World.size_alloc] at this
    exact this
  · cases h1
    have : w4.heap.size + 1 = w4.heap.size := by injection h2
    omega
set_option maxHeartbeats 8000000 in
theorem sBuildNfa_t : ∀ (t : Re), t.wf → t.flat.length ≤ 60 → plainE t.flat → ∀ (v : Value) (w : World), Pairs S w v t.flat → Calls Try.prog 92 #[v] w (RNb w (bN t) (bB t)) := by
  intro t
  induction t with
  | none =>
    intro ht hl hpl v w h
    replace h : Pairs S w v ([(1, 0)]) := h
    have HOk : Hid (ExprOk ([(1, 0)])) := (exprOk_iff _).2 ⟨_, ht, rfl, hl⟩
    have HPl : Hid (plainE ([(1, 0)])) := hpl
    have HLen : Hid (([(1, 0)]).length ≤ 60) := hl
    obtain ⟨ad, cap, hv, _⟩ := h.shape
    obtain ⟨bq, off, rfl0, hC⟩ := lastC2 (e0 := []) (by rw [hv] at h; exact h)
    subst rfl0
    change v = Value.slice (some ⟨bq, off, none⟩) 1 cap at hv
    subst hv
    have HC : Hid (∀ w', Below w.heap.size w w' → w'.cell? ⟨bq, off, none⟩ = some (.int .i64 1) ∧ w'.cell? ⟨bq, off + 1, none⟩ = some (.int .i64 0)) := fun w' hb => by simpa using hC w' hb
    clear hC
    have H := Lib.hid h; have HT := Lib.hid ht; clear h hl hpl ht
    obtain ⟨W, hW⟩ : ∃ W, W = w.alloc (.cells #[.int .i64 0, .slice none 0 0, .slice none 0 0, .slice none 0 0] 36) := ⟨_, rfl⟩
    have Hb : Hid (Below w.heap.size w W) := by rw [hW]; exact (Below.refl _ _).alloc (Nat.le_refl _) _
    have k2 : Hid (W.heap[w.heap.size]? = some (.cells #[.int .i64 0, .slice none 0 0, .slice none 0 0, .slice none 0 0] 36 (0, 0))) := by rw [hW]; exact blkNew _ _ rfl
    have HW := Lib.hid hW; clear hW
    go_enter Try.func92, Try.ntmps92
    go_wp2_with fail
    rw [← HW.out]
    clear HW
    refine (sExprValid_c _ ([(1, 0)]) W (H.out.stay (kpB Hb.out)) (by have := HLen.out; omega)).mono ?_
    rintro x w1 ⟨b1, rfl, hb, hv⟩
    cases b1
    · exact absurd HOk.out (hbF hv)
    clear hv
    replace Hb := Lib.hid (Hb.out.trans (hb.mono Hb.out.size))
    replace k2 := Lib.hid (blkBel hb k2.out)
    clear hb
    go_wp2_with fail
    refine (l12Plain_c _ ([(1, 0)]) w1 (H.out.stay (kpB Hb.out))).mono ?_
    rintro x w2 ⟨b1, rfl, hb, hv⟩
    cases b1
    · exact absurd HPl.out (hbF hv)
    clear hv
    replace Hb := Lib.hid (Hb.out.trans (hb.mono Hb.out.size))
    replace k2 := Lib.hid (blkBel hb k2.out)
    clear hb
    obtain ⟨c0, c1⟩ := HC.out w2 Hb.out
    obtain ⟨w3, hw3⟩ : ∃ z, z = w2.alloc (.cells #[.int .i64 1, .int .i64 0] 67) := ⟨_, rfl⟩
    have hb : Below w2.heap.size w2 w3 := by rw [hw3]; exact (Below.refl _ _).alloc (Nat.le_refl _) _
    have KP : Hid (w3.heap[w2.heap.size]? = some (.cells #[.int .i64 1, .int .i64 0] 67 (0, 0))) := by rw [hw3]; exact blkNew _ _ rfl
    have HW3 := Lib.hid hw3; clear hw3
    replace Hb := Lib.hid (Hb.out.trans (hb.mono Hb.out.size))
    replace k2 := Lib.hid (blkBel hb k2.out)
    clear hb
    go_wp2_with fail
    rw [← HW3.out]
    clear c0 c1
    refine (l2Split0_c _ 1 0 w3 (H.out.stay (kpB Hb.out)) (by decide) (by decide)).mono ?_
    rintro x w4 ⟨va, vb, rfl, hb, Ha, Hbb⟩
    replace Hb := Lib.hid (Hb.out.trans (hb.mono Hb.out.size))
    replace k2 := Lib.hid (blkBel hb k2.out)
    replace KP := Lib.hid (blkBel hb KP.out)
    clear hb HW3
    obtain ⟨aa, ca, rfl, _⟩ := Ha.out.shape
    obtain ⟨ab, cb, rfl, _⟩ := Hbb.out.shape
    obtain ⟨p0, p1, _, _⟩ := blk2 KP.out
    obtain ⟨e0, e1, e2, e3⟩ := blk4 k2.out
    have g1 := blkFz k2.out
    go_wp2
    refine bodyPost_ret (v := .tuple #[.agg #[.int .i64 0, .slice none 0 0, .slice none 0 0, .slice none 0 0], .bool true]) (by simp [results, Try.results92, go_sem, e0, e1, e2, e3, g1]) rfl ⟨_, _, _, rfl, bel4 Hb.out (Nat.le_refl _) _ _ _ _, NfaO.nil _ _⟩
  | empty =>
    intro ht hl hpl v w h
    replace h : Pairs S w v ([(2, 0)]) := h
    have HOk : Hid (ExprOk ([(2, 0)])) := (exprOk_iff _).2 ⟨_, ht, rfl, hl⟩
    have HPl : Hid (plainE ([(2, 0)])) := hpl
    have HLen : Hid (([(2, 0)]).length ≤ 60) := hl
    obtain ⟨ad, cap, hv, _⟩ := h.shape
    obtain ⟨bq, off, rfl0, hC⟩ := lastC2 (e0 := []) (by rw [hv] at h; exact h)
    subst rfl0
    change v = Value.slice (some ⟨bq, off, none⟩) 1 cap at hv
    subst hv
    have HC : Hid (∀ w', Below w.heap.size w w' → w'.cell? ⟨bq, off, none⟩ = some (.int .i64 2) ∧ w'.cell? ⟨bq, off + 1, none⟩ = some (.int .i64 0)) := fun w' hb => by simpa using hC w' hb
    clear hC
    have H := Lib.hid h; have HT := Lib.hid ht; clear h hl hpl ht
    obtain ⟨W, hW⟩ : ∃ W, W = w.alloc (.cells #[.int .i64 0, .slice none 0 0, .slice none 0 0, .slice none 0 0] 36) := ⟨_, rfl⟩
    have Hb : Hid (Below w.heap.size w W) := by rw [hW]; exact (Below.refl _ _).alloc (Nat.le_refl _) _
    have k2 : Hid (W.heap[w.heap.size]? = some (.cells #[.int .i64 0, .slice none 0 0, .slice none 0 0, .slice none 0 0] 36 (0, 0))) := by rw [hW]; exact blkNew _ _ rfl
    have HW := Lib.hid hW; clear hW
    go_enter Try.func92, Try.ntmps92
    go_wp2_with fail
    rw [← HW.out]
    clear HW
    refine (sExprValid_c _ ([(2, 0)]) W (H.out.stay (kpB Hb.out)) (by have := HLen.out; omega)).mono ?_
    rintro x w1 ⟨b1, rfl, hb, hv⟩
    cases b1
    · exact absurd HOk.out (hbF hv)
    clear hv
    replace Hb := Lib.hid (Hb.out.trans (hb.mono Hb.out.size))
    replace k2 := Lib.hid (blkBel hb k2.out)
    clear hb
    go_wp2_with fail
    refine (l12Plain_c _ ([(2, 0)]) w1 (H.out.stay (kpB Hb.out))).mono ?_
    rintro x w2 ⟨b1, rfl, hb, hv⟩
    cases b1
    · exact absurd HPl.out (hbF hv)
    clear hv
    replace Hb := Lib.hid (Hb.out.trans (hb.mono Hb.out.size))
    replace k2 := Lib.hid (blkBel hb k2.out)
    clear hb
    obtain ⟨c0, c1⟩ := HC.out w2 Hb.out
    obtain ⟨w3, hw3⟩ : ∃ z, z = w2.alloc (.cells #[.int .i64 2, .int .i64 0] 67) := ⟨_, rfl⟩
    have hb : Below w2.heap.size w2 w3 := by rw [hw3]; exact (Below.refl _ _).alloc (Nat.le_refl _) _
    have KP : Hid (w3.heap[w2.heap.size]? = some (.cells #[.int .i64 2, .int .i64 0] 67 (0, 0))) := by rw [hw3]; exact blkNew _ _ rfl
    have HW3 := Lib.hid hw3; clear hw3
    replace Hb := Lib.hid (Hb.out.trans (hb.mono Hb.out.size))
    replace k2 := Lib.hid (blkBel hb k2.out)
    clear hb
    go_wp2_with fail
    rw [← HW3.out]
    clear c0 c1
    refine (l2Split0_c _ 2 0 w3 (H.out.stay (kpB Hb.out)) (by decide) (by decide)).mono ?_
    rintro x w4 ⟨va, vb, rfl, hb, Ha, Hbb⟩
    replace Hb := Lib.hid (Hb.out.trans (hb.mono Hb.out.size))
    replace k2 := Lib.hid (blkBel hb k2.out)
    replace KP := Lib.hid (blkBel hb KP.out)
    clear hb HW3
    obtain ⟨aa, ca, rfl, _⟩ := Ha.out.shape
    obtain ⟨ab, cb, rfl, _⟩ := Hbb.out.shape
    obtain ⟨p0, p1, _, _⟩ := blk2 KP.out
    have hbs := Hb.out.size
    have hk : ((w4.alloc (.cells #[.int .i64 0] 3)).alloc (.cells #[.int .i64 0] 3)).heap[w.heap.size]? = _ := blkOld (blkOld k2.out)
    obtain ⟨l1, l2, l3⟩ := litTwo w4 w.heap.size hbs 0 0
    have hN : NfaO w.heap.size ((w4.alloc (.cells #[.int .i64 0] 3)).alloc (.cells #[.int .i64 0] 3)) (.slice none 0 0) (.slice (some ⟨w4.heap.size, 0, none⟩) 1 1) (.slice (some ⟨w4.heap.size + 1, 0, none⟩) 1 1) ⟨1, [], [0], [0]⟩ := ⟨Own3.nil _ _ _, l1, l2, l3⟩
    have hbU : Below w.heap.size w ((w4.alloc (.cells #[.int .i64 0] 3)).alloc (.cells #[.int .i64 0] 3)) := (Hb.out.alloc hbs _).alloc (by simp; omega) _
    obtain ⟨e0, e1, e2, e3⟩ := blk4 hk
    have g1 := blkFz hk
    have Hk := Lib.hid hk; have HNU := Lib.hid hN; have HbU := Lib.hid hbU; clear hk hN hbU l1 l2 l3
    go_wp2
    refine bodyPost_ret (v := .tuple #[.agg #[.int .i64 1, .slice none 0 0, .slice (some ⟨w4.heap.size, 0, none⟩) 1 1, .slice (some ⟨w4.heap.size + 1, 0, none⟩) 1 1], .bool true]) (by simp [results, Try.results92, go_sem, e0, e1, e2, e3, g1]) rfl ⟨_, _, _, rfl, bel4 HbU.out (Nat.le_refl _) _ _ _ _, HNU.out.set4 _ (by omega) Hk.out (by decide) _ _ _ _⟩
  | letter c =>
    intro ht hl hpl v w h
    replace h : Pairs S w v ([(3, c)]) := h
    have HOk : Hid (ExprOk ([(3, c)])) := (exprOk_iff _).2 ⟨_, ht, rfl, hl⟩
    have HPl : Hid (plainE ([(3, c)])) := hpl
    have HLen : Hid (([(3, c)]).length ≤ 60) := hl
    obtain ⟨ad, cap, hv, _⟩ := h.shape
    obtain ⟨bq, off, rfl0, hC⟩ := lastC2 (e0 := []) (by rw [hv] at h; exact h)
    subst rfl0
    change v = Value.slice (some ⟨bq, off, none⟩) 1 cap at hv
    subst hv
    have HC : Hid (∀ w', Below w.heap.size w w' → w'.cell? ⟨bq, off, none⟩ = some (.int .i64 3) ∧ w'.cell? ⟨bq, off + 1, none⟩ = some (.int .i64 c)) := fun w' hb => by simpa using hC w' hb
    clear hC
    have H := Lib.hid h; have HT := Lib.hid ht; clear h hl hpl ht
    obtain ⟨W, hW⟩ : ∃ W, W = w.alloc (.cells #[.int .i64 0, .slice none 0 0, .slice none 0 0, .slice none 0 0] 36) := ⟨_, rfl⟩
    have Hb : Hid (Below w.heap.size w W) := by rw [hW]; exact (Below.refl _ _).alloc (Nat.le_refl _) _
    have k2 : Hid (W.heap[w.heap.size]? = some (.cells #[.int .i64 0, .slice none 0 0, .slice none 0 0, .slice none 0 0] 36 (0, 0))) := by rw [hW]; exact blkNew _ _ rfl
    have HW := Lib.hid hW; clear hW
    go_enter Try.func92, Try.ntmps92
    go_wp2_with fail
    rw [← HW.out]
    clear HW
    refine (sExprValid_c _ ([(3, c)]) W (H.out.stay (kpB Hb.out)) (by have := HLen.out; omega)).mono ?_
    rintro x w1 ⟨b1, rfl, hb, hv⟩
    cases b1
    · exact absurd HOk.out (hbF hv)
    clear hv
    replace Hb := Lib.hid (Hb.out.trans (hb.mono Hb.out.size))
    replace k2 := Lib.hid (blkBel hb k2.out)
    clear hb
    go_wp2_with fail
    refine (l12Plain_c _ ([(3, c)]) w1 (H.out.stay (kpB Hb.out))).mono ?_
    rintro x w2 ⟨b1, rfl, hb, hv⟩
    cases b1
    · exact absurd HPl.out (hbF hv)
    clear hv
    replace Hb := Lib.hid (Hb.out.trans (hb.mono Hb.out.size))
    replace k2 := Lib.hid (blkBel hb k2.out)
    clear hb
    obtain ⟨c0, c1⟩ := HC.out w2 Hb.out
    obtain ⟨w3, hw3⟩ : ∃ z, z = w2.alloc (.cells #[.int .i64 3, .int .i64 c] 67) := ⟨_, rfl⟩
    have hb : Below w2.heap.size w2 w3 := by rw [hw3]; exact (Below.refl _ _).alloc (Nat.le_refl _) _
    have KP : Hid (w3.heap[w2.heap.size]? = some (.cells #[.int .i64 3, .int .i64 c] 67 (0, 0))) := by rw [hw3]; exact blkNew _ _ rfl
    have HW3 := Lib.hid hw3; clear hw3
    replace Hb := Lib.hid (Hb.out.trans (hb.mono Hb.out.size))
    replace k2 := Lib.hid (blkBel hb k2.out)
    clear hb
    go_wp2_with fail
    rw [← HW3.out]
    clear c0 c1
    refine (l2Split0_c _ 3 c w3 (H.out.stay (kpB Hb.out)) (.inl ⟨rfl, HT.out.1, HT.out.2⟩) (by decide)).mono ?_
    rintro x w4 ⟨va, vb, rfl, hb, Ha, Hbb⟩
    replace Hb := Lib.hid (Hb.out.trans (hb.mono Hb.out.size))
    replace k2 := Lib.hid (blkBel hb k2.out)
    replace KP := Lib.hid (blkBel hb KP.out)
    clear hb HW3
    obtain ⟨aa, ca, rfl, _⟩ := Ha.out.shape
    obtain ⟨ab, cb, rfl, _⟩ := Hbb.out.shape
    obtain ⟨p0, p1, _, _⟩ := blk2 KP.out
    have hbs := Hb.out.size
    have hk : (((w4.alloc (.cells #[.int .i64 0, .int .i64 c, .int .i64 1] 40)).alloc (.cells #[.int .i64 0] 3)).alloc (.cells #[.int .i64 1] 3)).heap[w.heap.size]? = _ := blkOld (blkOld (blkOld k2.out))
    obtain ⟨l1, l2, l3⟩ := litTwo (w4.alloc (.cells #[.int .i64 0, .int .i64 c, .int .i64 1] 40)) w.heap.size (by simp; omega) 0 1
    have l0 : Own3 (((w4.alloc (.cells #[.int .i64 0, .int .i64 c, .int .i64 1] 40)).alloc (.cells #[.int .i64 0] 3)).alloc (.cells #[.int .i64 1] 3)) w.heap.size 40 (.slice (some ⟨w4.heap.size, 0, none⟩) 1 1) [(0, c, 1)] := ownStay (ownStay (ownLit (n := 1) _ hbs (by omega) rfl) ((Below.refl _ _).alloc (Nat.le_refl _) _)) ((Below.refl _ _).alloc (Nat.le_refl _) _)
    rw [World.size_alloc] at l1 l2 l3
    have hN : NfaO w.heap.size (((w4.alloc (.cells #[.int .i64 0, .int .i64 c, .int .i64 1] 40)).alloc (.cells #[.int .i64 0] 3)).alloc (.cells #[.int .i64 1] 3)) (.slice (some ⟨w4.heap.size, 0, none⟩) 1 1) (.slice (some ⟨w4.heap.size + 1, 0, none⟩) 1 1) (.slice (some ⟨w4.heap.size + 1 + 1, 0, none⟩) 1 1) ⟨2, [(0, c, 1)], [0], [1]⟩ := ⟨l0, l1, l2, l3⟩
    have hbU : Below w.heap.size w (((w4.alloc (.cells #[.int .i64 0, .int .i64 c, .int .i64 1] 40)).alloc (.cells #[.int .i64 0] 3)).alloc (.cells #[.int .i64 1] 3)) := ((Hb.out.alloc hbs _).alloc (by simp; omega) _).alloc (by simp; omega) _
    obtain ⟨e0, e1, e2, e3⟩ := blk4 hk
    have g1 := blkFz hk
    have Hk := Lib.hid hk; have HNU := Lib.hid hN; have HbU := Lib.hid hbU; clear hk hN hbU l1 l2 l3 l0
    go_wp2
    refine bodyPost_ret (v := .tuple #[.agg #[.int .i64 2, .slice (some ⟨w4.heap.size, 0, none⟩) 1 1, .slice (some ⟨w4.heap.size + 1, 0, none⟩) 1 1, .slice (some ⟨w4.heap.size + 1 + 1, 0, none⟩) 1 1], .bool true]) (by simp [results, Try.results92, go_sem, e0, e1, e2, e3, g1]) rfl ⟨_, _, _, rfl, bel4 HbU.out (Nat.le_refl _) _ _ _ _, HNU.out.set4 _ (by omega) Hk.out (by decide) _ _ _ _⟩
  | both a b iha ihb =>
    intro ht hl hpl
    exact absurd rfl (hpl (6, 0) (by simp [Re.flat])).1
  | not a iha =>
    intro ht hl hpl
    exact absurd rfl (hpl (7, 0) (by simp [Re.flat])).2
  | star a iha =>
    intro ht hl hpl v w h
    replace h : Pairs S w v (a.flat ++ [(8, 0)]) := h
    have HOk : Hid (ExprOk (a.flat ++ [(8, 0)])) := (exprOk_iff _).2 ⟨_, ht, rfl, hl⟩
    have HPl : Hid (plainE (a.flat ++ [(8, 0)])) := hpl
    have HLen : Hid ((a.flat ++ [(8, 0)]).length ≤ 60) := hl
    obtain ⟨ad, cap, hv, _⟩ := h.shape
    obtain ⟨bq, off, rfl0, hC⟩ := lastC2 (e0 := a.flat) (by rw [hv] at h; exact h)
    subst rfl0
    obtain ⟨n, hn⟩ : ∃ n, n = (a.flat).length := ⟨_, rfl⟩
    rw [← hn] at hC
    have hn60 : n ≤ 59 := by have h1 := HLen.out; rw [List.length_append, ← hn] at h1; change n + 1 ≤ 60 at h1; omega
    rw [List.length_append, ← hn] at hv
    change v = Value.slice (some ⟨bq, off, none⟩) (n + 1) cap at hv
    subst hv
    have Hn := Lib.hid hn; clear hn
    have HC := Lib.hid hC; clear hC
    have H := Lib.hid h; have HT := Lib.hid ht; clear h hl hpl ht
    obtain ⟨W, hW⟩ : ∃ W, W = w.alloc (.cells #[.int .i64 0, .slice none 0 0, .slice none 0 0, .slice none 0 0] 36) := ⟨_, rfl⟩
    have Hb : Hid (Below w.heap.size w W) := by rw [hW]; exact (Below.refl _ _).alloc (Nat.le_refl _) _
    have k2 : Hid (W.heap[w.heap.size]? = some (.cells #[.int .i64 0, .slice none 0 0, .slice none 0 0, .slice none 0 0] 36 (0, 0))) := by rw [hW]; exact blkNew _ _ rfl
    have HW := Lib.hid hW; clear hW
    go_enter Try.func92, Try.ntmps92
    go_wp2_with fail
    rw [← HW.out]
    clear HW
    refine (sExprValid_c _ (a.flat ++ [(8, 0)]) W (H.out.stay (kpB Hb.out)) (by have := HLen.out; omega)).mono ?_
    rintro x w1 ⟨b1, rfl, hb, hv⟩
    cases b1
    · exact absurd HOk.out (hbF hv)
    clear hv
    replace Hb := Lib.hid (Hb.out.trans (hb.mono Hb.out.size))
    replace k2 := Lib.hid (blkBel hb k2.out)
    clear hb
    go_wp2_with fail
    refine (l12Plain_c _ (a.flat ++ [(8, 0)]) w1 (H.out.stay (kpB Hb.out))).mono ?_
    rintro x w2 ⟨b1, rfl, hb, hv⟩
    cases b1
    · exact absurd HPl.out (hbF hv)
    clear hv
    replace Hb := Lib.hid (Hb.out.trans (hb.mono Hb.out.size))
    replace k2 := Lib.hid (blkBel hb k2.out)
    clear hb
    obtain ⟨c0, c1⟩ := HC.out w2 Hb.out
    obtain ⟨w3, hw3⟩ : ∃ z, z = w2.alloc (.cells #[.int .i64 8, .int .i64 0] 67) := ⟨_, rfl⟩
    have hb : Below w2.heap.size w2 w3 := by rw [hw3]; exact (Below.refl _ _).alloc (Nat.le_refl _) _
    have KP : Hid (w3.heap[w2.heap.size]? = some (.cells #[.int .i64 8, .int .i64 0] 67 (0, 0))) := by rw [hw3]; exact blkNew _ _ rfl
    have HW3 := Lib.hid hw3; clear hw3
    replace Hb := Lib.hid (Hb.out.trans (hb.mono Hb.out.size))
    replace k2 := Lib.hid (blkBel hb k2.out)
    clear hb
    go_wp2_with fail
    rw [← HW3.out]
    clear c0 c1
    refine (l2Split1_c _ a.flat 8 0 w3 (H.out.stay (kpB Hb.out)) (by decide) (by decide) (by have := HLen.out; rw [List.length_append] at this; omega) a.flat_pos).mono ?_
    rintro x w4 ⟨va, vb, rfl, hb, Ha, Hbb⟩
    replace Hb := Lib.hid (Hb.out.trans (hb.mono Hb.out.size))
    replace k2 := Lib.hid (blkBel hb k2.out)
    replace KP := Lib.hid (blkBel hb KP.out)
    clear hb HW3
    obtain ⟨aa, ca, rfl, _⟩ := Ha.out.shape
    obtain ⟨ab, cb, rfl, _⟩ := Hbb.out.shape
    obtain ⟨p0, p1, _, _⟩ := blk2 KP.out
    have IA := Lib.hid (fun (w : World) (v : Value) (h : Pairs S w v a.flat) => iha HT.out (by have := HLen.out; rw [List.length_append] at this; omega) (plainE_part HPl.out).1 v w h)
    clear iha
    go_wp2_with fail
    clear p0 p1
    refine (IA.out w4 _ Ha.out).mono ?_
    rintro x w5a ⟨vmA, vfA, veA, rfl, hb, ho⟩
    have hbq := Hb.out.size
    replace Hb := Lib.hid (Hb.out.trans (hb.mono Hb.out.size))
    replace k2 := Lib.hid (blkBel hb k2.out)
    replace KP := Lib.hid (blkBel hb KP.out)
    clear hb
    have HOA := Lib.hid (ho.out.base (base' := w.heap.size) hbq); clear ho hbq
    obtain ⟨m1A, m2A, m3A, rfl⟩ := HOA.out.1.sl
    obtain ⟨m4A, m5A, m6A, rfl⟩ := HOA.out.2.1.sl
    obtain ⟨m7A, m8A, m9A, rfl⟩ := HOA.out.2.2.1.sl
    obtain ⟨A, hA⟩ : ∃ z, Hid (bN a = z) := ⟨_, rfl⟩
    obtain ⟨oA, hoA⟩ : ∃ z : Bool, Hid (bB a = z) := ⟨_, rfl⟩
    rw [hA.out] at HOA ⊢
    rw [hoA.out]
    obtain ⟨w5, hww5⟩ : ∃ z, z = w5a.alloc (.cells #[.int .i64 A.states, .slice m1A m2A m3A, .slice m4A m5A m6A, .slice m7A m8A m9A] 36) := ⟨_, rfl⟩
    have hb : Below w5a.heap.size w5a w5 := by rw [hww5]; exact (Below.refl _ _).alloc (Nat.le_refl _) _
    have KA : Hid (w5.heap[w5a.heap.size]? = some (.cells #[.int .i64 A.states, .slice m1A m2A m3A, .slice m4A m5A m6A, .slice m7A m8A m9A] 36 (0, 0))) := by rw [hww5]; exact blkNew _ _ rfl
    have HWw5 := Lib.hid hww5; clear hww5
    clear Ha Hbb IA HC H HOk HPl HLen
    replace Hb := Lib.hid (Hb.out.trans (hb.mono Hb.out.size))
    replace k2 := Lib.hid (blkBel hb k2.out)
    replace KP := Lib.hid (blkBel hb KP.out)
    replace HOA := Lib.hid (HOA.out.stay hb)
    clear hb
    obtain ⟨p0, p1, _, _⟩ := blk2 KP.out
    cases oA
    · skip
      have HN0 := Lib.hid (bStar_no hoA.out)
      obtain ⟨e0, e1, e2, e3⟩ := blk4 k2.out
      have g1 := blkFz k2.out
      go_wp2_with (rw [← HWw5.out])
      refine bodyPost_ret (v := .tuple #[.agg #[.int .i64 0, .slice none 0 0, .slice none 0 0, .slice none 0 0], .bool false]) (by simp [results, Try.results92, go_sem, e0, e1, e2, e3, g1]) rfl ⟨_, _, _, by rw [HN0.out.1, HN0.out.2]; rfl, bel4 Hb.out (Nat.le_refl _) _ _ _ _, by rw [HN0.out.1]; exact NfaO.nil _ _⟩
    obtain ⟨q0, q1, q2, q3⟩ := blk4 KA.out
    go_wp2_with (rw [← HWw5.out])
    refine (sNfaStar_c _ _ _ A w5 HOA.out.w.rd).mono ?_
    rintro x w9 ⟨vm, vf, ve, rfl, hb, ho⟩
    have hbq := Hb.out.size
    replace Hb := Lib.hid (Hb.out.trans (hb.mono hbq))
    replace k2 := Lib.hid (blkBel hb k2.out)
    have HO := Lib.hid (ho.out.base (base' := w.heap.size) hbq); clear ho hb
    have HY : Hid (bN (.star a) = stN A ∧ bB (.star a) = stB A) := Lib.hid (by rw [← hA.out]; exact bStar_yes hoA.out)
    obtain ⟨a1', n1, ca1, rfl⟩ := HO.out.1.sl
    obtain ⟨a2', n2, ca2, rfl⟩ := HO.out.2.1.sl
    obtain ⟨a3', n3, ca3, rfl⟩ := HO.out.2.2.1.sl
    rw [← HY.out.1] at HO ⊢
    rw [← HY.out.2]
    obtain ⟨x9, hx9⟩ : ∃ z, Hid ((bN (Re.star a)).states = z) := ⟨_, rfl⟩
    obtain ⟨y9, hy9⟩ : ∃ z : Bool, Hid (bB (Re.star a) = z) := ⟨_, rfl⟩
    rw [hx9.out, hy9.out]
    obtain ⟨e0, e1, e2, e3⟩ := blk4 k2.out
    have g1 := blkFz k2.out
    go_wp2
    refine bodyPost_ret (v := .tuple #[.agg #[.int .i64 x9, .slice a1' n1 ca1, .slice a2' n2 ca2, .slice a3' n3 ca3], .bool y9]) (by simp [results, Try.results92, go_sem, e0, e1, e2, e3, g1]) rfl ⟨_, _, _, by rw [hx9.out, hy9.out], bel4 Hb.out (Nat.le_refl _) _ _ _ _, HO.out.set4 _ (by omega) k2.out (by decide) _ _ _ _⟩
  | join a b iha ihb =>
    intro ht hl hpl v w h
    replace h : Pairs S w v (a.flat ++ b.flat ++ [(4, 0)]) := h
    have HOk : Hid (ExprOk (a.flat ++ b.flat ++ [(4, 0)])) := (exprOk_iff _).2 ⟨_, ht, rfl, hl⟩
    have HPl : Hid (plainE (a.flat ++ b.flat ++ [(4, 0)])) := hpl
    have HLen : Hid ((a.flat ++ b.flat ++ [(4, 0)]).length ≤ 60) := hl
    obtain ⟨ad, cap, hv, _⟩ := h.shape
    obtain ⟨bq, off, rfl0, hC⟩ := lastC2 (e0 := a.flat ++ b.flat) (by rw [hv] at h; exact h)
    subst rfl0
    obtain ⟨n, hn⟩ : ∃ n, n = (a.flat ++ b.flat).length := ⟨_, rfl⟩
    rw [← hn] at hC
    have hn60 : n ≤ 59 := by have h1 := HLen.out; rw [List.length_append, ← hn] at h1; change n + 1 ≤ 60 at h1; omega
    rw [List.length_append, ← hn] at hv
    change v = Value.slice (some ⟨bq, off, none⟩) (n + 1) cap at hv
    subst hv
    have Hn := Lib.hid hn; clear hn
    have HC := Lib.hid hC; clear hC
    have H := Lib.hid h; have HT := Lib.hid ht; clear h hl hpl ht
    obtain ⟨W, hW⟩ : ∃ W, W = w.alloc (.cells #[.int .i64 0, .slice none 0 0, .slice none 0 0, .slice none 0 0] 36) := ⟨_, rfl⟩
    have Hb : Hid (Below w.heap.size w W) := by rw [hW]; exact (Below.refl _ _).alloc (Nat.le_refl _) _
    have k2 : Hid (W.heap[w.heap.size]? = some (.cells #[.int .i64 0, .slice none 0 0, .slice none 0 0, .slice none 0 0] 36 (0, 0))) := by rw [hW]; exact blkNew _ _ rfl
    have HW := Lib.hid hW; clear hW
    go_enter Try.func92, Try.ntmps92
    go_wp2_with fail
    rw [← HW.out]
    clear HW
    refine (sExprValid_c _ (a.flat ++ b.flat ++ [(4, 0)]) W (H.out.stay (kpB Hb.out)) (by have := HLen.out; omega)).mono ?_
    rintro x w1 ⟨b1, rfl, hb, hv⟩
    cases b1
    · exact absurd HOk.out (hbF hv)
    clear hv
    replace Hb := Lib.hid (Hb.out.trans (hb.mono Hb.out.size))
    replace k2 := Lib.hid (blkBel hb k2.out)
    clear hb
    go_wp2_with fail
    refine (l12Plain_c _ (a.flat ++ b.flat ++ [(4, 0)]) w1 (H.out.stay (kpB Hb.out))).mono ?_
    rintro x w2 ⟨b1, rfl, hb, hv⟩
    cases b1
    · exact absurd HPl.out (hbF hv)
    clear hv
    replace Hb := Lib.hid (Hb.out.trans (hb.mono Hb.out.size))
    replace k2 := Lib.hid (blkBel hb k2.out)
    clear hb
    obtain ⟨c0, c1⟩ := HC.out w2 Hb.out
    obtain ⟨w3, hw3⟩ : ∃ z, z = w2.alloc (.cells #[.int .i64 4, .int .i64 0] 67) := ⟨_, rfl⟩
    have hb : Below w2.heap.size w2 w3 := by rw [hw3]; exact (Below.refl _ _).alloc (Nat.le_refl _) _
    have KP : Hid (w3.heap[w2.heap.size]? = some (.cells #[.int .i64 4, .int .i64 0] 67 (0, 0))) := by rw [hw3]; exact blkNew _ _ rfl
    have HW3 := Lib.hid hw3; clear hw3
    replace Hb := Lib.hid (Hb.out.trans (hb.mono Hb.out.size))
    replace k2 := Lib.hid (blkBel hb k2.out)
    clear hb
    go_wp2_with fail
    rw [← HW3.out]
    clear c0 c1
    refine (l2Split2_c _ a.flat b 4 0 w3 HT.out.2 (H.out.stay (kpB Hb.out)) (by decide) (by decide) (by have := HLen.out; rw [List.length_append] at this; omega) a.flat_pos).mono ?_
    rintro x w4 ⟨va, vb, rfl, hb, Ha, Hbb⟩
    replace Hb := Lib.hid (Hb.out.trans (hb.mono Hb.out.size))
    replace k2 := Lib.hid (blkBel hb k2.out)
    replace KP := Lib.hid (blkBel hb KP.out)
    clear hb HW3
    obtain ⟨aa, ca, rfl, _⟩ := Ha.out.shape
    obtain ⟨ab, cb, rfl, _⟩ := Hbb.out.shape
    obtain ⟨p0, p1, _, _⟩ := blk2 KP.out
    have IA := Lib.hid (fun (w : World) (v : Value) (h : Pairs S w v a.flat) => iha HT.out.1 (by have := HLen.out; rw [List.length_append, List.length_append] at this; omega) (plainE_part (plainE_part HPl.out).1).1 v w h)
    have IB := Lib.hid (fun (w : World) (v : Value) (h : Pairs S w v b.flat) => ihb HT.out.2 (by have := HLen.out; rw [List.length_append, List.length_append] at this; omega) (plainE_part (plainE_part HPl.out).1).2 v w h)
    clear iha ihb
    go_wp2_with fail
    clear p0 p1
    refine (IA.out w4 _ Ha.out).mono ?_
    rintro x w5a ⟨vmA, vfA, veA, rfl, hb, ho⟩
    have hbq := Hb.out.size
    replace Hb := Lib.hid (Hb.out.trans (hb.mono Hb.out.size))
    replace k2 := Lib.hid (blkBel hb k2.out)
    replace KP := Lib.hid (blkBel hb KP.out)
    replace Hbb := Lib.hid (Hbb.out.stay (kpB hb))
    clear hb
    have HOA := Lib.hid (ho.out.base (base' := w.heap.size) hbq); clear ho hbq
    obtain ⟨m1A, m2A, m3A, rfl⟩ := HOA.out.1.sl
    obtain ⟨m4A, m5A, m6A, rfl⟩ := HOA.out.2.1.sl
    obtain ⟨m7A, m8A, m9A, rfl⟩ := HOA.out.2.2.1.sl
    obtain ⟨A, hA⟩ : ∃ z, Hid (bN a = z) := ⟨_, rfl⟩
    obtain ⟨oA, hoA⟩ : ∃ z : Bool, Hid (bB a = z) := ⟨_, rfl⟩
    rw [hA.out] at HOA ⊢
    rw [hoA.out]
    obtain ⟨w5, hww5⟩ : ∃ z, z = w5a.alloc (.cells #[.int .i64 A.states, .slice m1A m2A m3A, .slice m4A m5A m6A, .slice m7A m8A m9A] 36) := ⟨_, rfl⟩
    have hb : Below w5a.heap.size w5a w5 := by rw [hww5]; exact (Below.refl _ _).alloc (Nat.le_refl _) _
    have KA : Hid (w5.heap[w5a.heap.size]? = some (.cells #[.int .i64 A.states, .slice m1A m2A m3A, .slice m4A m5A m6A, .slice m7A m8A m9A] 36 (0, 0))) := by rw [hww5]; exact blkNew _ _ rfl
    have HWw5 := Lib.hid hww5; clear hww5
    clear Ha IA HC H HOk HPl HLen
    replace Hb := Lib.hid (Hb.out.trans (hb.mono Hb.out.size))
    replace k2 := Lib.hid (blkBel hb k2.out)
    replace KP := Lib.hid (blkBel hb KP.out)
    replace HOA := Lib.hid (HOA.out.stay hb)
    replace Hbb := Lib.hid (Hbb.out.stay (kpB hb))
    clear hb
    obtain ⟨p0, p1, _, _⟩ := blk2 KP.out
    cases oA
    · skip
      have HN0 := Lib.hid (bJoin_noA (b := b) hoA.out)
      obtain ⟨e0, e1, e2, e3⟩ := blk4 k2.out
      have g1 := blkFz k2.out
      go_wp2_with (rw [← HWw5.out])
      refine bodyPost_ret (v := .tuple #[.agg #[.int .i64 0, .slice none 0 0, .slice none 0 0, .slice none 0 0], .bool false]) (by simp [results, Try.results92, go_sem, e0, e1, e2, e3, g1]) rfl ⟨_, _, _, by rw [HN0.out.1, HN0.out.2]; rfl, bel4 Hb.out (Nat.le_refl _) _ _ _ _, by rw [HN0.out.1]; exact NfaO.nil _ _⟩
    go_wp2_with (rw [← HWw5.out])
    clear p0 p1
    refine (IB.out w5 _ Hbb.out).mono ?_
    rintro x w6a ⟨vmB, vfB, veB, rfl, hb, ho⟩
    have hbq := Hb.out.size
    replace Hb := Lib.hid (Hb.out.trans (hb.mono Hb.out.size))
    replace k2 := Lib.hid (blkBel hb k2.out)
    replace KP := Lib.hid (blkBel hb KP.out)
    replace HOA := Lib.hid (HOA.out.stay hb)
    replace KA := Lib.hid (blkBel hb KA.out)
    clear hb
    have HOB := Lib.hid (ho.out.base (base' := w.heap.size) hbq); clear ho hbq
    obtain ⟨m1B, m2B, m3B, rfl⟩ := HOB.out.1.sl
    obtain ⟨m4B, m5B, m6B, rfl⟩ := HOB.out.2.1.sl
    obtain ⟨m7B, m8B, m9B, rfl⟩ := HOB.out.2.2.1.sl
    obtain ⟨B, hB⟩ : ∃ z, Hid (bN b = z) := ⟨_, rfl⟩
    obtain ⟨oB, hoB⟩ : ∃ z : Bool, Hid (bB b = z) := ⟨_, rfl⟩
    rw [hB.out] at HOB ⊢
    rw [hoB.out]
    obtain ⟨w6, hww6⟩ : ∃ z, z = w6a.alloc (.cells #[.int .i64 B.states, .slice m1B m2B m3B, .slice m4B m5B m6B, .slice m7B m8B m9B] 36) := ⟨_, rfl⟩
    have hb : Below w6a.heap.size w6a w6 := by rw [hww6]; exact (Below.refl _ _).alloc (Nat.le_refl _) _
    have KB : Hid (w6.heap[w6a.heap.size]? = some (.cells #[.int .i64 B.states, .slice m1B m2B m3B, .slice m4B m5B m6B, .slice m7B m8B m9B] 36 (0, 0))) := by rw [hww6]; exact blkNew _ _ rfl
    have HWw6 := Lib.hid hww6; clear hww6
    clear Hbb IB
    replace Hb := Lib.hid (Hb.out.trans (hb.mono Hb.out.size))
    replace k2 := Lib.hid (blkBel hb k2.out)
    replace KP := Lib.hid (blkBel hb KP.out)
    replace HOA := Lib.hid (HOA.out.stay hb)
    replace HOB := Lib.hid (HOB.out.stay hb)
    replace KA := Lib.hid (blkBel hb KA.out)
    clear hb
    obtain ⟨p0, p1, _, _⟩ := blk2 KP.out
    cases oB
    · skip
      have HN0 := Lib.hid (bJoin_noB (a := a) hoB.out)
      obtain ⟨e0, e1, e2, e3⟩ := blk4 k2.out
      have g1 := blkFz k2.out
      go_wp2_with (rw [← HWw6.out])
      refine bodyPost_ret (v := .tuple #[.agg #[.int .i64 0, .slice none 0 0, .slice none 0 0, .slice none 0 0], .bool false]) (by simp [results, Try.results92, go_sem, e0, e1, e2, e3, g1]) rfl ⟨_, _, _, by rw [HN0.out.1, HN0.out.2]; rfl, bel4 Hb.out (Nat.le_refl _) _ _ _ _, by rw [HN0.out.1]; exact NfaO.nil _ _⟩
    obtain ⟨q0, q1, q2, q3⟩ := blk4 KA.out
    obtain ⟨r0, r1, r2, r3⟩ := blk4 KB.out
    go_wp2_with (rw [← HWw6.out])
    refine (sNfaJoin_c _ _ _ _ _ _ A B w6 HOA.out.w.rd HOB.out.w.rd).mono ?_
    rintro x w9 ⟨vm, vf, ve, rfl, hb, ho⟩
    have hbq := Hb.out.size
    replace Hb := Lib.hid (Hb.out.trans (hb.mono hbq))
    replace k2 := Lib.hid (blkBel hb k2.out)
    have HO := Lib.hid (ho.out.base (base' := w.heap.size) hbq); clear ho hb
    have HY : Hid (bN (.join a b) = jnN A B ∧ bB (.join a b) = jnB A B) := Lib.hid (by rw [← hA.out, ← hB.out]; exact bJoin_yes hoA.out hoB.out)
    obtain ⟨a1', n1, ca1, rfl⟩ := HO.out.1.sl
    obtain ⟨a2', n2, ca2, rfl⟩ := HO.out.2.1.sl
    obtain ⟨a3', n3, ca3, rfl⟩ := HO.out.2.2.1.sl
    rw [← HY.out.1] at HO ⊢
    rw [← HY.out.2]
    obtain ⟨x9, hx9⟩ : ∃ z, Hid ((bN (Re.join a b)).states = z) := ⟨_, rfl⟩
    obtain ⟨y9, hy9⟩ : ∃ z : Bool, Hid (bB (Re.join a b) = z) := ⟨_, rfl⟩
    rw [hx9.out, hy9.out]
    obtain ⟨e0, e1, e2, e3⟩ := blk4 k2.out
    have g1 := blkFz k2.out
    go_wp2
    refine bodyPost_ret (v := .tuple #[.agg #[.int .i64 x9, .slice a1' n1 ca1, .slice a2' n2 ca2, .slice a3' n3 ca3], .bool y9]) (by simp [results, Try.results92, go_sem, e0, e1, e2, e3, g1]) rfl ⟨_, _, _, by rw [hx9.out, hy9.out], bel4 Hb.out (Nat.le_refl _) _ _ _ _, HO.out.set4 _ (by omega) k2.out (by decide) _ _ _ _⟩
  | either a b iha ihb =>
    intro ht hl hpl v w h
    replace h : Pairs S w v (a.flat ++ b.flat ++ [(5, 0)]) := h
    have HOk : Hid (ExprOk (a.flat ++ b.flat ++ [(5, 0)])) := (exprOk_iff _).2 ⟨_, ht, rfl, hl⟩
    have HPl : Hid (plainE (a.flat ++ b.flat ++ [(5, 0)])) := hpl
    have HLen : Hid ((a.flat ++ b.flat ++ [(5, 0)]).length ≤ 60) := hl
    obtain ⟨ad, cap, hv, _⟩ := h.shape
    obtain ⟨bq, off, rfl0, hC⟩ := lastC2 (e0 := a.flat ++ b.flat) (by rw [hv] at h; exact h)
    subst rfl0
    obtain ⟨n, hn⟩ : ∃ n, n = (a.flat ++ b.flat).length := ⟨_, rfl⟩
    rw [← hn] at hC
    have hn60 : n ≤ 59 := by have h1 := HLen.out; rw [List.length_append, ← hn] at h1; change n + 1 ≤ 60 at h1; omega
    rw [List.length_append, ← hn] at hv
    change v = Value.slice (some ⟨bq, off, none⟩) (n + 1) cap at hv
    subst hv
    have Hn := Lib.hid hn; clear hn
    have HC := Lib.hid hC; clear hC
    have H := Lib.hid h; have HT := Lib.hid ht; clear h hl hpl ht
    obtain ⟨W, hW⟩ : ∃ W, W = w.alloc (.cells #[.int .i64 0, .slice none 0 0, .slice none 0 0, .slice none 0 0] 36) := ⟨_, rfl⟩
    have Hb : Hid (Below w.heap.size w W) := by rw [hW]; exact (Below.refl _ _).alloc (Nat.le_refl _) _
    have k2 : Hid (W.heap[w.heap.size]? = some (.cells #[.int .i64 0, .slice none 0 0, .slice none 0 0, .slice none 0 0] 36 (0, 0))) := by rw [hW]; exact blkNew _ _ rfl
    have HW := Lib.hid hW; clear hW
    go_enter Try.func92, Try.ntmps92
    go_wp2_with fail
    rw [← HW.out]
    clear HW
    refine (sExprValid_c _ (a.flat ++ b.flat ++ [(5, 0)]) W (H.out.stay (kpB Hb.out)) (by have := HLen.out; omega)).mono ?_
    rintro x w1 ⟨b1, rfl, hb, hv⟩
    cases b1
    · exact absurd HOk.out (hbF hv)
    clear hv
    replace Hb := Lib.hid (Hb.out.trans (hb.mono Hb.out.size))
    replace k2 := Lib.hid (blkBel hb k2.out)
    clear hb
    go_wp2_with fail
    refine (l12Plain_c _ (a.flat ++ b.flat ++ [(5, 0)]) w1 (H.out.stay (kpB Hb.out))).mono ?_
    rintro x w2 ⟨b1, rfl, hb, hv⟩
    cases b1
    · exact absurd HPl.out (hbF hv)
    clear hv
    replace Hb := Lib.hid (Hb.out.trans (hb.mono Hb.out.size))
    replace k2 := Lib.hid (blkBel hb k2.out)
    clear hb
    obtain ⟨c0, c1⟩ := HC.out w2 Hb.out
    obtain ⟨w3, hw3⟩ : ∃ z, z = w2.alloc (.cells #[.int .i64 5, .int .i64 0] 67) := ⟨_, rfl⟩
    have hb : Below w2.heap.size w2 w3 := by rw [hw3]; exact (Below.refl _ _).alloc (Nat.le_refl _) _
    have KP : Hid (w3.heap[w2.heap.size]? = some (.cells #[.int .i64 5, .int .i64 0] 67 (0, 0))) := by rw [hw3]; exact blkNew _ _ rfl
    have HW3 := Lib.hid hw3; clear hw3
    replace Hb := Lib.hid (Hb.out.trans (hb.mono Hb.out.size))
    replace k2 := Lib.hid (blkBel hb k2.out)
    clear hb
    go_wp2_with fail
    rw [← HW3.out]
    clear c0 c1
    refine (l2Split2_c _ a.flat b 5 0 w3 HT.out.2 (H.out.stay (kpB Hb.out)) (by decide) (by decide) (by have := HLen.out; rw [List.length_append] at this; omega) a.flat_pos).mono ?_
    rintro x w4 ⟨va, vb, rfl, hb, Ha, Hbb⟩
    replace Hb := Lib.hid (Hb.out.trans (hb.mono Hb.out.size))
    replace k2 := Lib.hid (blkBel hb k2.out)
    replace KP := Lib.hid (blkBel hb KP.out)
    clear hb HW3
    obtain ⟨aa, ca, rfl, _⟩ := Ha.out.shape
    obtain ⟨ab, cb, rfl, _⟩ := Hbb.out.shape
    obtain ⟨p0, p1, _, _⟩ := blk2 KP.out
    have IA := Lib.hid (fun (w : World) (v : Value) (h : Pairs S w v a.flat) => iha HT.out.1 (by have := HLen.out; rw [List.length_append, List.length_append] at this; omega) (plainE_part (plainE_part HPl.out).1).1 v w h)
    have IB := Lib.hid (fun (w : World) (v : Value) (h : Pairs S w v b.flat) => ihb HT.out.2 (by have := HLen.out; rw [List.length_append, List.length_append] at this; omega) (plainE_part (plainE_part HPl.out).1).2 v w h)
    clear iha ihb
    go_wp2_with fail
    clear p0 p1
    refine (IA.out w4 _ Ha.out).mono ?_
    rintro x w5a ⟨vmA, vfA, veA, rfl, hb, ho⟩
    have hbq := Hb.out.size
    replace Hb := Lib.hid (Hb.out.trans (hb.mono Hb.out.size))
    replace k2 := Lib.hid (blkBel hb k2.out)
    replace KP := Lib.hid (blkBel hb KP.out)
    replace Hbb := Lib.hid (Hbb.out.stay (kpB hb))
    clear hb
    have HOA := Lib.hid (ho.out.base (base' := w.heap.size) hbq); clear ho hbq
    obtain ⟨m1A, m2A, m3A, rfl⟩ := HOA.out.1.sl
    obtain ⟨m4A, m5A, m6A, rfl⟩ := HOA.out.2.1.sl
    obtain ⟨m7A, m8A, m9A, rfl⟩ := HOA.out.2.2.1.sl
    obtain ⟨A, hA⟩ : ∃ z, Hid (bN a = z) := ⟨_, rfl⟩
    obtain ⟨oA, hoA⟩ : ∃ z : Bool, Hid (bB a = z) := ⟨_, rfl⟩
    rw [hA.out] at HOA ⊢
    rw [hoA.out]
    obtain ⟨w5, hww5⟩ : ∃ z, z = w5a.alloc (.cells #[.int .i64 A.states, .slice m1A m2A m3A, .slice m4A m5A m6A, .slice m7A m8A m9A] 36) := ⟨_, rfl⟩
    have hb : Below w5a.heap.size w5a w5 := by rw [hww5]; exact (Below.refl _ _).alloc (Nat.le_refl _) _
    have KA : Hid (w5.heap[w5a.heap.size]? = some (.cells #[.int .i64 A.states, .slice m1A m2A m3A, .slice m4A m5A m6A, .slice m7A m8A m9A] 36 (0, 0))) := by rw [hww5]; exact blkNew _ _ rfl
    have HWw5 := Lib.hid hww5; clear hww5
    clear Ha IA HC H HOk HPl HLen
    replace Hb := Lib.hid (Hb.out.trans (hb.mono Hb.out.size))
    replace k2 := Lib.hid (blkBel hb k2.out)
    replace KP := Lib.hid (blkBel hb KP.out)
    replace HOA := Lib.hid (HOA.out.stay hb)
    replace Hbb := Lib.hid (Hbb.out.stay (kpB hb))
    clear hb
    obtain ⟨p0, p1, _, _⟩ := blk2 KP.out
    cases oA
    · skip
      have HN0 := Lib.hid (bEither_noA (b := b) hoA.out)
      obtain ⟨e0, e1, e2, e3⟩ := blk4 k2.out
      have g1 := blkFz k2.out
      go_wp2_with (rw [← HWw5.out])
      refine bodyPost_ret (v := .tuple #[.agg #[.int .i64 0, .slice none 0 0, .slice none 0 0, .slice none 0 0], .bool false]) (by simp [results, Try.results92, go_sem, e0, e1, e2, e3, g1]) rfl ⟨_, _, _, by rw [HN0.out.1, HN0.out.2]; rfl, bel4 Hb.out (Nat.le_refl _) _ _ _ _, by rw [HN0.out.1]; exact NfaO.nil _ _⟩
    go_wp2_with (rw [← HWw5.out])
    clear p0 p1
    refine (IB.out w5 _ Hbb.out).mono ?_
    rintro x w6a ⟨vmB, vfB, veB, rfl, hb, ho⟩
    have hbq := Hb.out.size
    replace Hb := Lib.hid (Hb.out.trans (hb.mono Hb.out.size))
    replace k2 := Lib.hid (blkBel hb k2.out)
    replace KP := Lib.hid (blkBel hb KP.out)
    replace HOA := Lib.hid (HOA.out.stay hb)
    replace KA := Lib.hid (blkBel hb KA.out)
    clear hb
    have HOB := Lib.hid (ho.out.base (base' := w.heap.size) hbq); clear ho hbq
    obtain ⟨m1B, m2B, m3B, rfl⟩ := HOB.out.1.sl
    obtain ⟨m4B, m5B, m6B, rfl⟩ := HOB.out.2.1.sl
    obtain ⟨m7B, m8B, m9B, rfl⟩ := HOB.out.2.2.1.sl
    obtain ⟨B, hB⟩ : ∃ z, Hid (bN b = z) := ⟨_, rfl⟩
    obtain ⟨oB, hoB⟩ : ∃ z : Bool, Hid (bB b = z) := ⟨_, rfl⟩
    rw [hB.out] at HOB ⊢
    rw [hoB.out]
    obtain ⟨w6, hww6⟩ : ∃ z, z = w6a.alloc (.cells #[.int .i64 B.states, .slice m1B m2B m3B, .slice m4B m5B m6B, .slice m7B m8B m9B] 36) := ⟨_, rfl⟩
    have hb : Below w6a.heap.size w6a w6 := by rw [hww6]; exact (Below.refl _ _).alloc (Nat.le_refl _) _
    have KB : Hid (w6.heap[w6a.heap.size]? = some (.cells #[.int .i64 B.states, .slice m1B m2B m3B, .slice m4B m5B m6B, .slice m7B m8B m9B] 36 (0, 0))) := by rw [hww6]; exact blkNew _ _ rfl
    have HWw6 := Lib.hid hww6; clear hww6
    clear Hbb IB
    replace Hb := Lib.hid (Hb.out.trans (hb.mono Hb.out.size))
    replace k2 := Lib.hid (blkBel hb k2.out)
    replace KP := Lib.hid (blkBel hb KP.out)
    replace HOA := Lib.hid (HOA.out.stay hb)
    replace HOB := Lib.hid (HOB.out.stay hb)
    replace KA := Lib.hid (blkBel hb KA.out)
    clear hb
    obtain ⟨p0, p1, _, _⟩ := blk2 KP.out
    cases oB
    · skip
      have HN0 := Lib.hid (bEither_noB (a := a) hoB.out)
      obtain ⟨e0, e1, e2, e3⟩ := blk4 k2.out
      have g1 := blkFz k2.out
      go_wp2_with (rw [← HWw6.out])
      refine bodyPost_ret (v := .tuple #[.agg #[.int .i64 0, .slice none 0 0, .slice none 0 0, .slice none 0 0], .bool false]) (by simp [results, Try.results92, go_sem, e0, e1, e2, e3, g1]) rfl ⟨_, _, _, by rw [HN0.out.1, HN0.out.2]; rfl, bel4 Hb.out (Nat.le_refl _) _ _ _ _, by rw [HN0.out.1]; exact NfaO.nil _ _⟩
    obtain ⟨q0, q1, q2, q3⟩ := blk4 KA.out
    obtain ⟨r0, r1, r2, r3⟩ := blk4 KB.out
    go_wp2_with (rw [← HWw6.out])
    refine (sNfaEither_c _ _ _ _ _ _ A B w6 HOA.out.w.rd HOB.out.w.rd).mono ?_
    rintro x w9 ⟨vm, vf, ve, rfl, hb, ho⟩
    have hbq := Hb.out.size
    replace Hb := Lib.hid (Hb.out.trans (hb.mono hbq))
    replace k2 := Lib.hid (blkBel hb k2.out)
    have HO := Lib.hid (ho.out.base (base' := w.heap.size) hbq); clear ho hb
    have HY : Hid (bN (.either a b) = eiN A B ∧ bB (.either a b) = eiB A B) := Lib.hid (by rw [← hA.out, ← hB.out]; exact bEither_yes hoA.out hoB.out)
    obtain ⟨a1', n1, ca1, rfl⟩ := HO.out.1.sl
    obtain ⟨a2', n2, ca2, rfl⟩ := HO.out.2.1.sl
    obtain ⟨a3', n3, ca3, rfl⟩ := HO.out.2.2.1.sl
    rw [← HY.out.1] at HO ⊢
    rw [← HY.out.2]
    obtain ⟨x9, hx9⟩ : ∃ z, Hid ((bN (Re.either a b)).states = z) := ⟨_, rfl⟩
    obtain ⟨y9, hy9⟩ : ∃ z : Bool, Hid (bB (Re.either a b) = z) := ⟨_, rfl⟩
    rw [hx9.out, hy9.out]
    obtain ⟨e0, e1, e2, e3⟩ := blk4 k2.out
    have g1 := blkFz k2.out
    go_wp2
    refine bodyPost_ret (v := .tuple #[.agg #[.int .i64 x9, .slice a1' n1 ca1, .slice a2' n2 ca2, .slice a3' n3 ca3], .bool y9]) (by simp [results, Try.results92, go_sem, e0, e1, e2, e3, g1]) rfl ⟨_, _, _, by rw [hx9.out, hy9.out], bel4 Hb.out (Nat.le_refl _) _ _ _ _, HO.out.set4 _ (by omega) k2.out (by decide) _ _ _ _⟩
end Go.Proofs.Ytbcjhiponbfbnaa
