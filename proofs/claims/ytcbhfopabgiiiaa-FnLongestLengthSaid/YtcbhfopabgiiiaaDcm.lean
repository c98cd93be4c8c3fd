/- Expressions compiled: the reference's, as far as that it answers an automaton. -/
import Derived.Test.YtcbhfopabgiiiaaCmj
import Derived.Test.YtcbhfopabgiiiaaGD
import Derived.Test.YtcbhfopabgiiiaaSml
import Derived.Test.YtcbhfopabgiiiaaGG
import Derived.Test.YtcbhfopabgiiiaaGI
import Derived.Test.YtcbhfopabgiiiaaPs0
import Derived.Test.YtcbhfopabgiiiaaPs1
set_option linter.unusedSimpArgs false
set_option linter.unusedVariables false
set_option linter.unusedSectionVars false
namespace Go.Proofs.Ytcbhfopabgiiiaa
open Go.RowKit
set_option maxRecDepth 100000
variable {S T : Nat → Prop}
theorem cnOk {D : DfaD} (h : okD D) : okD (canon (lgD D)) := by rw [← small_eq h]; exact trim_ok (sml_ok (trim_ok h))
/-- An automaton that is written out. -/
theorem litDfa {w : World} {base g ge : Nat} {e e' : TypeId} (rs : List (Nat × List Int)) (es : List Bool)
    (hr : ∀ p ∈ rs, w.heap[p.1]? = some (.cells (p.2.map (Value.int .i64 ·)).toArray 3 (0, 0)) ∧ base ≤ p.1 ∧ p.2.length ≤ 10)
    (hg : w.heap[g]? = some (.cells (rs.map fun p => Value.slice (some ⟨p.1, 0, none⟩) p.2.length p.2.length).toArray e (0, 0))) (hgb : base ≤ g) (hn : rs.length ≤ 10)
    (he : w.heap[ge]? = some (.cells (es.map Value.bool).toArray e' (0, 0))) (heb : base ≤ ge) (hm : es.length ≤ 10) :
    DfaR (base ≤ ·) w (.slice (some ⟨g, 0, none⟩) rs.length rs.length) (.slice (some ⟨ge, 0, none⟩) es.length es.length) (rs.map (·.2), es) := by
  have key : ∀ {e : TypeId} {b : Nat} (cs : List Value), w.heap[b]? = some (.cells cs.toArray e (0, 0)) → base ≤ b → cs.length ≤ 10 → w.ownsRow base e 1 (.slice (some ⟨b, 0, none⟩) cs.length cs.length) cs.length cs := fun cs h hb hl =>
    ⟨by simp, .inr ⟨_, cs.length, _, rfl, hb, h, Nat.le_refl _, by unfold maxLen; omega, by simp, by simp⟩⟩
  have k1 := (ownFl (key _ hg hgb (by simpa using hn))).fl
  have k2 := (ownFl (key _ he heb (by simpa using hm))).fl
  rw [List.length_map] at k1 k2
  refine ⟨⟨_, by rw [List.length_map]; exact k1, by simp, fun i hi => ?_⟩, k2⟩
  rw [List.length_map] at hi
  have h3 := hr _ (List.getElem_mem hi)
  have k3 := (ownFl (key _ h3.1 h3.2.1 (by simpa using h3.2.2))).fl
  rw [List.length_map] at k3
  simp only [List.getElem_map]
  rw [show (rs.map fun p => Value.slice (some ⟨p.1, 0, none⟩) p.2.length p.2.length).getD i undef = Value.slice (some ⟨rs[i].1, 0, none⟩) rs[i].2.length rs[i].2.length by simp [List.getD, hi]]
  exact k3
def none1 : DfaD := ([[0, 0, 0]], [false])
theorem none1_ok : okD none1 := by refine ⟨⟨by decide, by decide⟩, by decide, fun r hr => ?_⟩; simp [none1] at hr; subst hr; simp [none1]
def empt1 : DfaD := ([[1, 1, 1], [1, 1, 1]], [true, false])
theorem empt1_ok : okD empt1 := by refine ⟨⟨by decide, by decide⟩, by decide, fun r hr => ?_⟩; simp [empt1] at hr; subst hr; simp [empt1]
def lett1 (r : List Int) : DfaD := ([r, [2, 2, 2], [2, 2, 2]], [false, true, false])
theorem lett1_ok {r : List Int} (h : r.length = 3 ∧ ∀ x ∈ r, 0 ≤ x ∧ x ≤ 2) : okD (lett1 r) := by
  refine ⟨⟨by simp [lett1], by simp [lett1]⟩, by simp [lett1], fun q hq => ?_⟩
  simp [lett1] at hq
  rcases hq with rfl | rfl
  · exact ⟨h.1, fun x hx => by simpa [lett1] using h.2 x hx⟩
  · simp [lett1]
/-- The blocks that are laid at the start. -/
structure Pre (w W : World) : Prop where
  bel : Below w.heap.size w W
  k2 : W.heap[w.heap.size]? = some (.cells #[.slice none 0 0, .slice none 0 0] 26 (0, 0))
  ka : W.heap[w.heap.size + 1]? = some (.cells #[.int .i64 0, .int .i64 0, .int .i64 0] 3 (0, 0))
  kb : W.heap[w.heap.size + 1 + 1]? = some (.cells #[.slice (some ⟨w.heap.size + 1, 0, none⟩) 3 3] 39 (0, 0))
  kc : W.heap[w.heap.size + 1 + 1 + 1]? = some (.cells #[.bool false] 4 (0, 0))
  kd : W.heap[w.heap.size + 1 + 1 + 1 + 1]? = some (.cells #[.slice (some ⟨w.heap.size + 1 + 1, 0, none⟩) 1 1, .slice (some ⟨w.heap.size + 1 + 1 + 1, 0, none⟩) 1 1] 26 (0, 0))
theorem Pre.stay {w W W' : World} (h : Pre w W) (k : Below W.heap.size W W') : Pre w W' :=
  ⟨h.bel.trans (k.mono h.bel.size), blkBel k h.k2, blkBel k h.ka, blkBel k h.kb, blkBel k h.kc, blkBel k h.kd⟩
theorem Pre.nn {w W : World} (h : Pre w W) : DfaR (w.heap.size ≤ ·) W (.slice (some ⟨w.heap.size + 1 + 1, 0, none⟩) 1 1) (.slice (some ⟨w.heap.size + 1 + 1 + 1, 0, none⟩) 1 1) none1 :=
  litDfa (base := w.heap.size) [(w.heap.size + 1, [0, 0, 0])] [false] (fun p hp => by simp at hp; subst hp; exact ⟨h.ka, by simp, by simp⟩) h.kb (by omega) (by simp) h.kc (by omega) (by simp)
theorem pre5 {w W : World} (hW : W = ((((w.alloc (.cells #[.slice none 0 0, .slice none 0 0] 26)).alloc (.cells #[.int .i64 0, .int .i64 0, .int .i64 0] 3)).alloc (.cells #[.slice (some ⟨w.heap.size + 1, 0, none⟩) 3 3] 39)).alloc (.cells #[.bool false] 4)).alloc (.cells #[.slice (some ⟨w.heap.size + 1 + 1, 0, none⟩) 1 1, .slice (some ⟨w.heap.size + 1 + 1 + 1, 0, none⟩) 1 1] 26)) : Pre w W where
  bel := by rw [hW]; exact ((((((Below.refl _ _).alloc (Nat.le_refl _) _).alloc (by simp) _).alloc (by simp; omega) _).alloc (by simp; omega) _).alloc (by simp; omega) _)
  k2 := by rw [hW]; exact blkOld (blkOld (blkOld (blkOld (blkNew _ _ rfl))))
  ka := by rw [hW]; exact blkOld (blkOld (blkOld (blkNew _ _ (by simp))))
  kb := by rw [hW]; exact blkOld (blkOld (blkNew _ _ (by simp)))
  kc := by rw [hW]; exact blkOld (blkNew _ _ (by simp))
  kd := by rw [hW]; exact blkNew _ _ (by simp)
set_option maxHeartbeats 4000000 in
theorem l11Dfa0_c (v : Value) (x y : Int) (w : World) (h : Pairs S w v [(x, y)]) (hp : pOk x y) (h0 : pNeeds x = 0) : Calls Try.prog 161 #[v] w (RDw w) := by
  have hH := Lib.hid h
  obtain ⟨a, cap, rfl, _⟩ := h.shape
  obtain ⟨b, off, rfl, c0, c1⟩ := h.at (k := 0) (by simp)
  simp at c0 c1
  clear h
  obtain ⟨W5, hW5⟩ : ∃ W5, W5 = ((((w.alloc (.cells #[.slice none 0 0, .slice none 0 0] 26)).alloc (.cells #[.int .i64 0, .int .i64 0, .int .i64 0] 3)).alloc (.cells #[.slice (some ⟨w.heap.size + 1, 0, none⟩) 3 3] 39)).alloc (.cells #[.bool false] 4)).alloc (.cells #[.slice (some ⟨w.heap.size + 1 + 1, 0, none⟩) 1 1, .slice (some ⟨w.heap.size + 1 + 1 + 1, 0, none⟩) 1 1] 26) := ⟨_, rfl⟩
  have HP5 := Lib.hid (pre5 hW5)
  have hz5 : Hid (W5.heap.size = w.heap.size + 5) := by rw [hW5]; simp [Hid]
  replace c0 := kpB (S := fun _ => True) HP5.out.bel _ _ trivial c0
  replace c1 := kpB (S := fun _ => True) HP5.out.bel _ _ trivial c1
  have HW5 := Lib.hid hW5; clear hW5
  rw [HW5.out] at c0 c1
  have HP := Lib.hid hp; clear hp
  have H0 := Lib.hid h0; clear h0
  go_enter Try.func161, Try.ntmps161
  go_wp2_with fail
  rw [← HW5.out]
  rw [show w.heap.size + 1 + 1 + 1 + 1 + 1 = W5.heap.size by rw [hz5.out]]
  obtain ⟨W, hW⟩ : ∃ W, W = W5.alloc (.cells #[.int .i64 x, .int .i64 y] 62) := ⟨_, rfl⟩
  have hb6 : Hid (Below W5.heap.size W5 W) := by rw [hW]; exact (Below.refl _ _).alloc (Nat.le_refl _) _
  have K6 : Hid (W.heap[W5.heap.size]? = some (.cells #[.int .i64 x, .int .i64 y] 62 (0, 0))) := by rw [hW]; exact blkNew _ _ rfl
  rw [← hW]
  clear c0 c1 hW HW5
  refine (l2Split0_c _ x y W (hH.out.stay (kpB (HP5.out.stay hb6.out).bel)) HP.out H0.out).mono ?_
  rintro e w1 ⟨va, vb, rfl, hb1, hva, hvb⟩
  obtain ⟨aa, ca, rfl, _⟩ := hva.out.shape
  obtain ⟨ab, cb, rfl, _⟩ := hvb.out.shape
  clear hva hvb
  have HQ := Lib.hid ((HP5.out.stay hb6.out).stay hb1)
  have K61 := Lib.hid (blkBel hb1 K6.out)
  obtain ⟨d0, d1, _, _⟩ := blk2 HQ.out.kd
  obtain ⟨W9, hW9⟩ : ∃ x, x = ((w1.alloc (.cells #[.slice (some ⟨w.heap.size + 1 + 1, 0, none⟩) 1 1, .slice (some ⟨w.heap.size + 1 + 1 + 1, 0, none⟩) 1 1] 26)).alloc (.cells #[.slice (some ⟨w.heap.size + 1 + 1, 0, none⟩) 1 1, .slice (some ⟨w.heap.size + 1 + 1 + 1, 0, none⟩) 1 1] 26)).alloc (.cells #[.slice (some ⟨w.heap.size + 1 + 1, 0, none⟩) 1 1, .slice (some ⟨w.heap.size + 1 + 1 + 1, 0, none⟩) 1 1] 26) := ⟨_, rfl⟩
  have hb9 : Hid (Below w1.heap.size w1 W9) := by rw [hW9]; exact (((Below.refl _ _).alloc (Nat.le_refl _) _).alloc (by simp) _).alloc (by simp; omega) _
  have d0' : ∀ o : Obj, (w1.alloc o).cell? ⟨w.heap.size + 1 + 1 + 1 + 1, 0, none⟩ = _ := fun o => kpAlloc (S := fun _ => True) _ _ trivial d0
  have d1' : ∀ o : Obj, (w1.alloc o).cell? ⟨w.heap.size + 1 + 1 + 1 + 1, 1, none⟩ = _ := fun o => kpAlloc (S := fun _ => True) _ _ trivial d1
  have d0'' : ∀ o o' : Obj, ((w1.alloc o).alloc o').cell? ⟨w.heap.size + 1 + 1 + 1 + 1, 0, none⟩ = _ := fun o o' => kpAlloc (S := fun _ => True) _ _ trivial (d0' o)
  have d1'' : ∀ o o' : Obj, ((w1.alloc o).alloc o').cell? ⟨w.heap.size + 1 + 1 + 1 + 1, 1, none⟩ = _ := fun o o' => kpAlloc (S := fun _ => True) _ _ trivial (d1' o)
  have HR := Lib.hid (HQ.out.stay hb9.out)
  have K69 := Lib.hid (blkBel hb9.out K61.out)
  have K12 : Hid (W9.heap[w1.heap.size + 1 + 1]? = some (.cells #[.slice (some ⟨w.heap.size + 1 + 1, 0, none⟩) 1 1, .slice (some ⟨w.heap.size + 1 + 1 + 1, 0, none⟩) 1 1] 26 (0, 0))) := by rw [hW9]; exact blkNew _ _ (by simp)
  have hz9 : Hid (W9.heap.size = w1.heap.size + 3) := by rw [hW9]; simp [Hid]
  obtain ⟨p0, p1, _, _⟩ := blk2 K69.out
  have p1r := kpAlloc (S := fun _ => True) (o := .cells #[.int .i64 2, .int .i64 2, .int .i64 2] 3) _ _ trivial p1
  have HW9 := Lib.hid hW9
  rw [hW9] at p0 p1 p1r
  clear hW9
  have hw1 : Hid (w.heap.size + 5 ≤ w1.heap.size) := Lib.hid (by have := (Array.getElem?_eq_some_iff.1 HQ.out.kd).1; omega)
  rcases pNeeds_cases x y HP.out with ⟨rfl, rfl⟩ | ⟨rfl, rfl⟩ | ⟨rfl, hy0, hy2⟩ | ⟨rfl, rfl⟩ | ⟨rfl, rfl⟩ | ⟨rfl, rfl⟩ | ⟨rfl, rfl⟩ | ⟨rfl, rfl⟩
  · go_wp2_with fail
    rw [← HW9.out]
    refine (l10Small_c _ _ none1 W9 HR.out.nn none1_ok).mono ?_
    rintro e w5 ⟨v1, v2, rfl, hb5, hd5⟩
    obtain ⟨aN, cN, aE, cE, rfl, rfl, _, _⟩ := hd5.out.rd.shapes
    have hz5' := hb5.size
    have K5 := Lib.hid (blkBel hb5 HR.out.k2)
    have hbS := Lib.hid HR.out.bel
    have hbs := hbS.out.size
    have hbi : w.heap.size < (W9).heap.size := (Array.getElem?_eq_some_iff.1 HR.out.k2).1
    obtain ⟨f0, f1, f2, f3⟩ := blk2 K5.out
    go_wp2
    refine bodyPost_ret (v := .tuple #[.agg #[.slice aN (canon (lgD none1)).1.length cN, .slice aE (canon (lgD none1)).2.length cE], .bool true]) (by simp [results, Try.results161, go_sem, f0, f1, f2, f3]) rfl ?_
    exact RDw.out (B := (W9).heap.size) (g := w.heap.size) (hbS.out.trans (hb5.mono hbs)) (Nat.le_refl _) hbi (Lib.hid (.inl ⟨rfl, cnOk none1_ok⟩)) (hd5.out.rd.mono fun b h => h.1)
  · go_wp2_with fail
    obtain ⟨WX, hWX⟩ : ∃ WX, WX = (((((((w1.alloc (.cells #[.slice (some ⟨w.heap.size + 1 + 1, 0, none⟩) 1 1, .slice (some ⟨w.heap.size + 1 + 1 + 1, 0, none⟩) 1 1] 26)).alloc (.cells #[.slice (some ⟨w.heap.size + 1 + 1, 0, none⟩) 1 1, .slice (some ⟨w.heap.size + 1 + 1 + 1, 0, none⟩) 1 1] 26)).alloc (.cells #[.slice (some ⟨w1.heap.size + 1 + 1 + 1 + 1 + 1, 0, none⟩) 2 2, .slice (some ⟨w1.heap.size + 1 + 1 + 1 + 1 + 1 + 1, 0, none⟩) 2 2] 26)).alloc (.cells #[.int .i64 1, .int .i64 1, .int .i64 1] 3)).alloc (.cells #[.int .i64 1, .int .i64 1, .int .i64 1] 3)).alloc (.cells #[.slice (some ⟨w1.heap.size + 1 + 1 + 1, 0, none⟩) 3 3, .slice (some ⟨w1.heap.size + 1 + 1 + 1 + 1, 0, none⟩) 3 3] 39)).alloc (.cells #[.bool true, .bool false] 4)) := ⟨_, rfl⟩
    have hbX : Hid (Below w1.heap.size w1 WX) := by rw [hWX]; exact (((((((Below.refl _ _).alloc (Nat.le_refl _) _).alloc (by simp) _).alloc (by simp; omega) _).alloc (by simp; omega) _).alloc (by simp; omega) _).alloc (by simp; omega) _).alloc (by simp; omega) _
    have kk3 : Hid (WX.heap[w1.heap.size + 1 + 1 + 1]? = some (.cells #[.int .i64 1, .int .i64 1, .int .i64 1] 3 (0, 0))) := by rw [hWX]; exact blkOld (blkOld (blkOld (blkNew _ _ (by simp))))
    have kk4 : Hid (WX.heap[w1.heap.size + 1 + 1 + 1 + 1]? = some (.cells #[.int .i64 1, .int .i64 1, .int .i64 1] 3 (0, 0))) := by rw [hWX]; exact blkOld (blkOld (blkNew _ _ (by simp)))
    have kg : Hid (WX.heap[w1.heap.size + 1 + 1 + 1 + 1 + 1]? = some (.cells #[.slice (some ⟨w1.heap.size + 1 + 1 + 1, 0, none⟩) 3 3, .slice (some ⟨w1.heap.size + 1 + 1 + 1 + 1, 0, none⟩) 3 3] 39 (0, 0))) := by rw [hWX]; exact blkOld (blkNew _ _ (by simp))
    have ke : Hid (WX.heap[w1.heap.size + 1 + 1 + 1 + 1 + 1 + 1]? = some (.cells #[.bool true, .bool false] 4 (0, 0))) := by rw [hWX]; exact blkNew _ _ (by simp)
    have hRX := Lib.hid (HQ.out.stay hbX.out)
    have hdX : Hid (DfaR (w.heap.size ≤ ·) WX (.slice (some ⟨w1.heap.size + 1 + 1 + 1 + 1 + 1, 0, none⟩) 2 2) (.slice (some ⟨w1.heap.size + 1 + 1 + 1 + 1 + 1 + 1, 0, none⟩) 2 2) empt1) := by
      have hw := hw1.out
      refine Lib.hid (litDfa (base := w.heap.size) [(w1.heap.size + 1 + 1 + 1, [1, 1, 1]), (w1.heap.size + 1 + 1 + 1 + 1, [1, 1, 1])] [true, false] (fun p hp => ?_) kg.out (by omega) (by simp) ke.out (by omega) (by simp))
      simp at hp
      rcases hp with rfl | rfl
      · exact ⟨kk3.out, by dsimp only; omega, by simp⟩
      · exact ⟨kk4.out, by dsimp only; omega, by simp⟩
    rw [← hWX]
    clear hWX
    refine (l10Small_c _ _ empt1 WX hdX.out empt1_ok).mono ?_
    rintro e w5 ⟨v1, v2, rfl, hb5, hd5⟩
    obtain ⟨aN, cN, aE, cE, rfl, rfl, _, _⟩ := hd5.out.rd.shapes
    have hz5' := hb5.size
    have K5 := Lib.hid (blkBel hb5 hRX.out.k2)
    have hbS := Lib.hid hRX.out.bel
    have hbs := hbS.out.size
    have hbi : w.heap.size < (WX).heap.size := (Array.getElem?_eq_some_iff.1 hRX.out.k2).1
    obtain ⟨f0, f1, f2, f3⟩ := blk2 K5.out
    go_wp2
    refine bodyPost_ret (v := .tuple #[.agg #[.slice aN (canon (lgD empt1)).1.length cN, .slice aE (canon (lgD empt1)).2.length cE], .bool true]) (by simp [results, Try.results161, go_sem, f0, f1, f2, f3]) rfl ?_
    exact RDw.out (B := (WX).heap.size) (g := w.heap.size) (hbS.out.trans (hb5.mono hbs)) (Nat.le_refl _) hbi (Lib.hid (.inl ⟨rfl, cnOk empt1_ok⟩)) (hd5.out.rd.mono fun b h => h.1)
  · obtain rfl | rfl | rfl : y = 0 ∨ y = 1 ∨ y = 2 := by omega
    · go_wp2_with fail
      obtain ⟨WX, hWX⟩ : ∃ WX, WX = ((((((((w1.alloc (.cells #[.slice (some ⟨w.heap.size + 1 + 1, 0, none⟩) 1 1, .slice (some ⟨w.heap.size + 1 + 1 + 1, 0, none⟩) 1 1] 26)).alloc (.cells #[.slice (some ⟨w.heap.size + 1 + 1, 0, none⟩) 1 1, .slice (some ⟨w.heap.size + 1 + 1 + 1, 0, none⟩) 1 1] 26)).alloc (.cells #[.slice (some ⟨w1.heap.size + 1 + 1 + 1 + 1 + 1 + 1, 0, none⟩) 3 3, .slice (some ⟨w1.heap.size + 1 + 1 + 1 + 1 + 1 + 1 + 1, 0, none⟩) 3 3] 26)).alloc (.cells #[.int .i64 1, .int .i64 2, .int .i64 2] 3)).alloc (.cells #[.int .i64 2, .int .i64 2, .int .i64 2] 3)).alloc (.cells #[.int .i64 2, .int .i64 2, .int .i64 2] 3)).alloc (.cells #[.slice (some ⟨w1.heap.size + 1 + 1 + 1, 0, none⟩) 3 3, .slice (some ⟨w1.heap.size + 1 + 1 + 1 + 1, 0, none⟩) 3 3, .slice (some ⟨w1.heap.size + 1 + 1 + 1 + 1 + 1, 0, none⟩) 3 3] 39)).alloc (.cells #[.bool false, .bool true, .bool false] 4)) := ⟨_, rfl⟩
      have hbX : Hid (Below w1.heap.size w1 WX) := by rw [hWX]; exact ((((((((Below.refl _ _).alloc (Nat.le_refl _) _).alloc (by simp) _).alloc (by simp; omega) _).alloc (by simp; omega) _).alloc (by simp; omega) _).alloc (by simp; omega) _).alloc (by simp; omega) _).alloc (by simp; omega) _
      have kk3 : Hid (WX.heap[w1.heap.size + 1 + 1 + 1]? = some (.cells #[.int .i64 1, .int .i64 2, .int .i64 2] 3 (0, 0))) := by rw [hWX]; exact blkOld (blkOld (blkOld (blkOld (blkNew _ _ (by simp)))))
      have kk4 : Hid (WX.heap[w1.heap.size + 1 + 1 + 1 + 1]? = some (.cells #[.int .i64 2, .int .i64 2, .int .i64 2] 3 (0, 0))) := by rw [hWX]; exact blkOld (blkOld (blkOld (blkNew _ _ (by simp))))
      have kk5 : Hid (WX.heap[w1.heap.size + 1 + 1 + 1 + 1 + 1]? = some (.cells #[.int .i64 2, .int .i64 2, .int .i64 2] 3 (0, 0))) := by rw [hWX]; exact blkOld (blkOld (blkNew _ _ (by simp)))
      have kg : Hid (WX.heap[w1.heap.size + 1 + 1 + 1 + 1 + 1 + 1]? = some (.cells #[.slice (some ⟨w1.heap.size + 1 + 1 + 1, 0, none⟩) 3 3, .slice (some ⟨w1.heap.size + 1 + 1 + 1 + 1, 0, none⟩) 3 3, .slice (some ⟨w1.heap.size + 1 + 1 + 1 + 1 + 1, 0, none⟩) 3 3] 39 (0, 0))) := by rw [hWX]; exact blkOld (blkNew _ _ (by simp))
      have ke : Hid (WX.heap[w1.heap.size + 1 + 1 + 1 + 1 + 1 + 1 + 1]? = some (.cells #[.bool false, .bool true, .bool false] 4 (0, 0))) := by rw [hWX]; exact blkNew _ _ (by simp)
      have hRX := Lib.hid (HQ.out.stay hbX.out)
      have hdX : Hid (DfaR (w.heap.size ≤ ·) WX (.slice (some ⟨w1.heap.size + 1 + 1 + 1 + 1 + 1 + 1, 0, none⟩) 3 3) (.slice (some ⟨w1.heap.size + 1 + 1 + 1 + 1 + 1 + 1 + 1, 0, none⟩) 3 3) (lett1 [1, 2, 2])) := by
        have hw := hw1.out
        refine Lib.hid (litDfa (base := w.heap.size) [(w1.heap.size + 1 + 1 + 1, [1, 2, 2]), (w1.heap.size + 1 + 1 + 1 + 1, [2, 2, 2]), (w1.heap.size + 1 + 1 + 1 + 1 + 1, [2, 2, 2])] [false, true, false] (fun p hp => ?_) kg.out (by omega) (by simp) ke.out (by omega) (by simp))
        simp at hp
        rcases hp with rfl | rfl | rfl
        · exact ⟨kk3.out, by dsimp only; omega, by simp⟩
        · exact ⟨kk4.out, by dsimp only; omega, by simp⟩
        · exact ⟨kk5.out, by dsimp only; omega, by simp⟩
      rw [← hWX]
      clear hWX
      refine (l10Small_c _ _ (lett1 [1, 2, 2]) WX hdX.out (lett1_ok (by simp))).mono ?_
      rintro e w5 ⟨v1, v2, rfl, hb5, hd5⟩
      obtain ⟨aN, cN, aE, cE, rfl, rfl, _, _⟩ := hd5.out.rd.shapes
      have hz5' := hb5.size
      have K5 := Lib.hid (blkBel hb5 hRX.out.k2)
      have hbS := Lib.hid hRX.out.bel
      have hbs := hbS.out.size
      have hbi : w.heap.size < (WX).heap.size := (Array.getElem?_eq_some_iff.1 hRX.out.k2).1
      obtain ⟨f0, f1, f2, f3⟩ := blk2 K5.out
      go_wp2
      refine bodyPost_ret (v := .tuple #[.agg #[.slice aN (canon (lgD (lett1 [1, 2, 2]))).1.length cN, .slice aE (canon (lgD (lett1 [1, 2, 2]))).2.length cE], .bool true]) (by simp [results, Try.results161, go_sem, f0, f1, f2, f3]) rfl ?_
      exact RDw.out (B := (WX).heap.size) (g := w.heap.size) (hbS.out.trans (hb5.mono hbs)) (Nat.le_refl _) hbi (Lib.hid (.inl ⟨rfl, cnOk (lett1_ok (by simp))⟩)) (hd5.out.rd.mono fun b h => h.1)
    · go_wp2_with fail
      obtain ⟨WX, hWX⟩ : ∃ WX, WX = ((((((((w1.alloc (.cells #[.slice (some ⟨w.heap.size + 1 + 1, 0, none⟩) 1 1, .slice (some ⟨w.heap.size + 1 + 1 + 1, 0, none⟩) 1 1] 26)).alloc (.cells #[.slice (some ⟨w.heap.size + 1 + 1, 0, none⟩) 1 1, .slice (some ⟨w.heap.size + 1 + 1 + 1, 0, none⟩) 1 1] 26)).alloc (.cells #[.slice (some ⟨w1.heap.size + 1 + 1 + 1 + 1 + 1 + 1, 0, none⟩) 3 3, .slice (some ⟨w1.heap.size + 1 + 1 + 1 + 1 + 1 + 1 + 1, 0, none⟩) 3 3] 26)).alloc (.cells #[.int .i64 2, .int .i64 1, .int .i64 2] 3)).alloc (.cells #[.int .i64 2, .int .i64 2, .int .i64 2] 3)).alloc (.cells #[.int .i64 2, .int .i64 2, .int .i64 2] 3)).alloc (.cells #[.slice (some ⟨w1.heap.size + 1 + 1 + 1, 0, none⟩) 3 3, .slice (some ⟨w1.heap.size + 1 + 1 + 1 + 1, 0, none⟩) 3 3, .slice (some ⟨w1.heap.size + 1 + 1 + 1 + 1 + 1, 0, none⟩) 3 3] 39)).alloc (.cells #[.bool false, .bool true, .bool false] 4)) := ⟨_, rfl⟩
      have hbX : Hid (Below w1.heap.size w1 WX) := by rw [hWX]; exact ((((((((Below.refl _ _).alloc (Nat.le_refl _) _).alloc (by simp) _).alloc (by simp; omega) _).alloc (by simp; omega) _).alloc (by simp; omega) _).alloc (by simp; omega) _).alloc (by simp; omega) _).alloc (by simp; omega) _
      have kk3 : Hid (WX.heap[w1.heap.size + 1 + 1 + 1]? = some (.cells #[.int .i64 2, .int .i64 1, .int .i64 2] 3 (0, 0))) := by rw [hWX]; exact blkOld (blkOld (blkOld (blkOld (blkNew _ _ (by simp)))))
      have kk4 : Hid (WX.heap[w1.heap.size + 1 + 1 + 1 + 1]? = some (.cells #[.int .i64 2, .int .i64 2, .int .i64 2] 3 (0, 0))) := by rw [hWX]; exact blkOld (blkOld (blkOld (blkNew _ _ (by simp))))
      have kk5 : Hid (WX.heap[w1.heap.size + 1 + 1 + 1 + 1 + 1]? = some (.cells #[.int .i64 2, .int .i64 2, .int .i64 2] 3 (0, 0))) := by rw [hWX]; exact blkOld (blkOld (blkNew _ _ (by simp)))
      have kg : Hid (WX.heap[w1.heap.size + 1 + 1 + 1 + 1 + 1 + 1]? = some (.cells #[.slice (some ⟨w1.heap.size + 1 + 1 + 1, 0, none⟩) 3 3, .slice (some ⟨w1.heap.size + 1 + 1 + 1 + 1, 0, none⟩) 3 3, .slice (some ⟨w1.heap.size + 1 + 1 + 1 + 1 + 1, 0, none⟩) 3 3] 39 (0, 0))) := by rw [hWX]; exact blkOld (blkNew _ _ (by simp))
      have ke : Hid (WX.heap[w1.heap.size + 1 + 1 + 1 + 1 + 1 + 1 + 1]? = some (.cells #[.bool false, .bool true, .bool false] 4 (0, 0))) := by rw [hWX]; exact blkNew _ _ (by simp)
      have hRX := Lib.hid (HQ.out.stay hbX.out)
      have hdX : Hid (DfaR (w.heap.size ≤ ·) WX (.slice (some ⟨w1.heap.size + 1 + 1 + 1 + 1 + 1 + 1, 0, none⟩) 3 3) (.slice (some ⟨w1.heap.size + 1 + 1 + 1 + 1 + 1 + 1 + 1, 0, none⟩) 3 3) (lett1 [2, 1, 2])) := by
        have hw := hw1.out
        refine Lib.hid (litDfa (base := w.heap.size) [(w1.heap.size + 1 + 1 + 1, [2, 1, 2]), (w1.heap.size + 1 + 1 + 1 + 1, [2, 2, 2]), (w1.heap.size + 1 + 1 + 1 + 1 + 1, [2, 2, 2])] [false, true, false] (fun p hp => ?_) kg.out (by omega) (by simp) ke.out (by omega) (by simp))
        simp at hp
        rcases hp with rfl | rfl | rfl
        · exact ⟨kk3.out, by dsimp only; omega, by simp⟩
        · exact ⟨kk4.out, by dsimp only; omega, by simp⟩
        · exact ⟨kk5.out, by dsimp only; omega, by simp⟩
      rw [← hWX]
      clear hWX
      refine (l10Small_c _ _ (lett1 [2, 1, 2]) WX hdX.out (lett1_ok (by simp))).mono ?_
      rintro e w5 ⟨v1, v2, rfl, hb5, hd5⟩
      obtain ⟨aN, cN, aE, cE, rfl, rfl, _, _⟩ := hd5.out.rd.shapes
      have hz5' := hb5.size
      have K5 := Lib.hid (blkBel hb5 hRX.out.k2)
      have hbS := Lib.hid hRX.out.bel
      have hbs := hbS.out.size
      have hbi : w.heap.size < (WX).heap.size := (Array.getElem?_eq_some_iff.1 hRX.out.k2).1
      obtain ⟨f0, f1, f2, f3⟩ := blk2 K5.out
      go_wp2
      refine bodyPost_ret (v := .tuple #[.agg #[.slice aN (canon (lgD (lett1 [2, 1, 2]))).1.length cN, .slice aE (canon (lgD (lett1 [2, 1, 2]))).2.length cE], .bool true]) (by simp [results, Try.results161, go_sem, f0, f1, f2, f3]) rfl ?_
      exact RDw.out (B := (WX).heap.size) (g := w.heap.size) (hbS.out.trans (hb5.mono hbs)) (Nat.le_refl _) hbi (Lib.hid (.inl ⟨rfl, cnOk (lett1_ok (by simp))⟩)) (hd5.out.rd.mono fun b h => h.1)
    · go_wp2_with fail
      obtain ⟨WX, hWX⟩ : ∃ WX, WX = ((((((((w1.alloc (.cells #[.slice (some ⟨w.heap.size + 1 + 1, 0, none⟩) 1 1, .slice (some ⟨w.heap.size + 1 + 1 + 1, 0, none⟩) 1 1] 26)).alloc (.cells #[.slice (some ⟨w.heap.size + 1 + 1, 0, none⟩) 1 1, .slice (some ⟨w.heap.size + 1 + 1 + 1, 0, none⟩) 1 1] 26)).alloc (.cells #[.slice (some ⟨w1.heap.size + 1 + 1 + 1 + 1 + 1 + 1, 0, none⟩) 3 3, .slice (some ⟨w1.heap.size + 1 + 1 + 1 + 1 + 1 + 1 + 1, 0, none⟩) 3 3] 26)).alloc (.cells #[.int .i64 2, .int .i64 2, .int .i64 1] 3)).alloc (.cells #[.int .i64 2, .int .i64 2, .int .i64 2] 3)).alloc (.cells #[.int .i64 2, .int .i64 2, .int .i64 2] 3)).alloc (.cells #[.slice (some ⟨w1.heap.size + 1 + 1 + 1, 0, none⟩) 3 3, .slice (some ⟨w1.heap.size + 1 + 1 + 1 + 1, 0, none⟩) 3 3, .slice (some ⟨w1.heap.size + 1 + 1 + 1 + 1 + 1, 0, none⟩) 3 3] 39)).alloc (.cells #[.bool false, .bool true, .bool false] 4)) := ⟨_, rfl⟩
      have hbX : Hid (Below w1.heap.size w1 WX) := by rw [hWX]; exact ((((((((Below.refl _ _).alloc (Nat.le_refl _) _).alloc (by simp) _).alloc (by simp; omega) _).alloc (by simp; omega) _).alloc (by simp; omega) _).alloc (by simp; omega) _).alloc (by simp; omega) _).alloc (by simp; omega) _
      have kk3 : Hid (WX.heap[w1.heap.size + 1 + 1 + 1]? = some (.cells #[.int .i64 2, .int .i64 2, .int .i64 1] 3 (0, 0))) := by rw [hWX]; exact blkOld (blkOld (blkOld (blkOld (blkNew _ _ (by simp)))))
      have kk4 : Hid (WX.heap[w1.heap.size + 1 + 1 + 1 + 1]? = some (.cells #[.int .i64 2, .int .i64 2, .int .i64 2] 3 (0, 0))) := by rw [hWX]; exact blkOld (blkOld (blkOld (blkNew _ _ (by simp))))
      have kk5 : Hid (WX.heap[w1.heap.size + 1 + 1 + 1 + 1 + 1]? = some (.cells #[.int .i64 2, .int .i64 2, .int .i64 2] 3 (0, 0))) := by rw [hWX]; exact blkOld (blkOld (blkNew _ _ (by simp)))
      have kg : Hid (WX.heap[w1.heap.size + 1 + 1 + 1 + 1 + 1 + 1]? = some (.cells #[.slice (some ⟨w1.heap.size + 1 + 1 + 1, 0, none⟩) 3 3, .slice (some ⟨w1.heap.size + 1 + 1 + 1 + 1, 0, none⟩) 3 3, .slice (some ⟨w1.heap.size + 1 + 1 + 1 + 1 + 1, 0, none⟩) 3 3] 39 (0, 0))) := by rw [hWX]; exact blkOld (blkNew _ _ (by simp))
      have ke : Hid (WX.heap[w1.heap.size + 1 + 1 + 1 + 1 + 1 + 1 + 1]? = some (.cells #[.bool false, .bool true, .bool false] 4 (0, 0))) := by rw [hWX]; exact blkNew _ _ (by simp)
      have hRX := Lib.hid (HQ.out.stay hbX.out)
      have hdX : Hid (DfaR (w.heap.size ≤ ·) WX (.slice (some ⟨w1.heap.size + 1 + 1 + 1 + 1 + 1 + 1, 0, none⟩) 3 3) (.slice (some ⟨w1.heap.size + 1 + 1 + 1 + 1 + 1 + 1 + 1, 0, none⟩) 3 3) (lett1 [2, 2, 1])) := by
        have hw := hw1.out
        refine Lib.hid (litDfa (base := w.heap.size) [(w1.heap.size + 1 + 1 + 1, [2, 2, 1]), (w1.heap.size + 1 + 1 + 1 + 1, [2, 2, 2]), (w1.heap.size + 1 + 1 + 1 + 1 + 1, [2, 2, 2])] [false, true, false] (fun p hp => ?_) kg.out (by omega) (by simp) ke.out (by omega) (by simp))
        simp at hp
        rcases hp with rfl | rfl | rfl
        · exact ⟨kk3.out, by dsimp only; omega, by simp⟩
        · exact ⟨kk4.out, by dsimp only; omega, by simp⟩
        · exact ⟨kk5.out, by dsimp only; omega, by simp⟩
      rw [← hWX]
      clear hWX
      refine (l10Small_c _ _ (lett1 [2, 2, 1]) WX hdX.out (lett1_ok (by simp))).mono ?_
      rintro e w5 ⟨v1, v2, rfl, hb5, hd5⟩
      obtain ⟨aN, cN, aE, cE, rfl, rfl, _, _⟩ := hd5.out.rd.shapes
      have hz5' := hb5.size
      have K5 := Lib.hid (blkBel hb5 hRX.out.k2)
      have hbS := Lib.hid hRX.out.bel
      have hbs := hbS.out.size
      have hbi : w.heap.size < (WX).heap.size := (Array.getElem?_eq_some_iff.1 hRX.out.k2).1
      obtain ⟨f0, f1, f2, f3⟩ := blk2 K5.out
      go_wp2
      refine bodyPost_ret (v := .tuple #[.agg #[.slice aN (canon (lgD (lett1 [2, 2, 1]))).1.length cN, .slice aE (canon (lgD (lett1 [2, 2, 1]))).2.length cE], .bool true]) (by simp [results, Try.results161, go_sem, f0, f1, f2, f3]) rfl ?_
      exact RDw.out (B := (WX).heap.size) (g := w.heap.size) (hbS.out.trans (hb5.mono hbs)) (Nat.le_refl _) hbi (Lib.hid (.inl ⟨rfl, cnOk (lett1_ok (by simp))⟩)) (hd5.out.rd.mono fun b h => h.1)
  all_goals (exfalso; have := H0.out; simp [pNeeds] at this)
end Go.Proofs.Ytcbhfopabgiiiaa
