/- BuildNfa: the reference's answer for every list of parts. -/
import Derived.Test.YtbcjhiponbfbnaaBns
import Derived.Test.YtbcjhiponbfbnaaFsp
set_option linter.unusedSimpArgs false
set_option linter.unusedVariables false
set_option linter.unusedSectionVars false
namespace Go.Proofs.Ytbcjhiponbfbnaa
open Go.RowKit
set_option maxRecDepth 100000
variable {S T : Nat → Prop}
noncomputable def bvN (e : List (Int × Int)) : NfaD := match plT e with | some t => bN t | none => nfa0
noncomputable def bvB (e : List (Int × Int)) : Bool := match plT e with | some t => bB t | none => false
theorem bv_some {e : List (Int × Int)} {t : Re} (h : plT e = some t) : bvN e = bN t ∧ bvB e = bB t := by unfold bvN bvB; rw [h]; exact ⟨rfl, rfl⟩
theorem bv_none {e : List (Int × Int)} (h : plT e = none) : bvN e = nfa0 ∧ bvB e = false := by unfold bvN bvB; rw [h]; exact ⟨rfl, rfl⟩
set_option maxHeartbeats 1000000 in
theorem sBuildNfa_c (v : Value) (e : List (Int × Int)) (w : World) (h : Pairs S w v e) (hn : e.length ≤ 1048576) : Calls Try.prog 92 #[v] w (RNb w (bvN e) (bvB e)) := by
  by_cases hp : ExprOk e ∧ plainE e
  · obtain ⟨t, ht, he, hl, hT⟩ := plT_yes hp.1 hp.2
    rw [(bv_some hT).1, (bv_some hT).2]
    exact sBuildNfa_t t ht hl (by rw [he]; exact hp.2) v w (by rw [he]; exact h)
  · have HN := Lib.hid (bv_none (plT_no hp))
    have HP := Lib.hid hp; clear hp
    obtain ⟨a, cap, rfl, _⟩ := h.shape
    obtain ⟨W, hW⟩ : ∃ W, W = w.alloc (.cells #[.int .i64 0, .slice none 0 0, .slice none 0 0, .slice none 0 0] 36) := ⟨_, rfl⟩
    have Hb : Hid (Below w.heap.size w W) := by rw [hW]; exact (Below.refl _ _).alloc (Nat.le_refl _) _
    have k2 : Hid (W.heap[w.heap.size]? = some (.cells #[.int .i64 0, .slice none 0 0, .slice none 0 0, .slice none 0 0] 36 (0, 0))) := by rw [hW]; exact blkNew _ _ rfl
    have HW := Lib.hid hW; clear hW
    have H := Lib.hid h; clear h
    go_enter Try.func92, Try.ntmps92
    go_wp2_with fail
    rw [← HW.out]
    clear HW
    refine (sExprValid_c _ e W (H.out.stay (kpB Hb.out)) hn).mono ?_
    rintro x w1 ⟨b1, rfl, hb, hv⟩
    replace Hb := Lib.hid (Hb.out.trans (hb.mono Hb.out.size))
    replace k2 := Lib.hid (blkBel hb k2.out)
    clear hb
    cases b1
    · clear hv
      obtain ⟨e0, e1, e2, e3⟩ := blk4 k2.out
      have g1 := blkFz k2.out
      go_wp2
      refine bodyPost_ret (v := .tuple #[.agg #[.int .i64 0, .slice none 0 0, .slice none 0 0, .slice none 0 0], .bool false]) (by simp [results, Try.results92, go_sem, e0, e1, e2, e3, g1]) rfl ⟨_, _, _, by rw [HN.out.1, HN.out.2]; rfl, bel4 Hb.out (Nat.le_refl _) _ _ _ _, by rw [HN.out.1]; exact NfaO.nil _ _⟩
    have hok := Lib.hid (hbT hv); clear hv
    go_wp2_with fail
    refine (l12Plain_c _ e w1 (H.out.stay (kpB Hb.out))).mono ?_
    rintro x w2 ⟨b1, rfl, hb, hv⟩
    replace Hb := Lib.hid (Hb.out.trans (hb.mono Hb.out.size))
    replace k2 := Lib.hid (blkBel hb k2.out)
    clear hb
    cases b1
    · clear hv
      obtain ⟨e0, e1, e2, e3⟩ := blk4 k2.out
      have g1 := blkFz k2.out
      go_wp2
      refine bodyPost_ret (v := .tuple #[.agg #[.int .i64 0, .slice none 0 0, .slice none 0 0, .slice none 0 0], .bool false]) (by simp [results, Try.results92, go_sem, e0, e1, e2, e3, g1]) rfl ⟨_, _, _, by rw [HN.out.1, HN.out.2]; rfl, bel4 Hb.out (Nat.le_refl _) _ _ _ _, by rw [HN.out.1]; exact NfaO.nil _ _⟩
    · exact absurd ⟨hok.out, hbT hv⟩ HP.out
end Go.Proofs.Ytbcjhiponbfbnaa
