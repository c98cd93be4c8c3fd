/- Whether the empty word is in the language of an expression: the reference's answer. -/
import Derived.Test.YtbcjhiponbfbnaaGD
set_option linter.unusedSimpArgs false
set_option linter.unusedVariables false
set_option linter.unusedSectionVars false
namespace Go.Proofs.Ytbcjhiponbfbnaa
open Go.RowKit
set_option maxRecDepth 100000
variable {S T : Nat → Prop}
/-- The empty word is in the language. -/
def Re.nul : Re → Bool
  | .none => false
  | .empty => true
  | .letter _ => false
  | .join a b => a.nul && b.nul
  | .either a b => a.nul || b.nul
  | .both a b => a.nul && b.nul
  | .not a => !a.nul
  | .star _ => true
theorem flatOne (f : List (Int × Int)) (x y : Int) (h : f.length < (f ++ [(x, y)]).length) : (f ++ [(x, y)])[f.length] = (x, y) := by simp
set_option maxHeartbeats 2000000 in
theorem l2Empty_c : ∀ (t : Re), t.wf → t.flat.length ≤ 900 → ∀ (v : Value) (w : World), Pairs S w v t.flat → Calls Try.prog 126 #[v] w (RO w (.bool t.nul)) := by
  intro t
  induction t with
  | none =>
    intro ht hl v w h
    have H := Lib.hid h
    obtain ⟨ad, cap, rfl, _⟩ := h.shape
    clear h
    replace H : Hid (Pairs S w (.slice ad 1 cap) [(1, 0)]) := H
    have e1 : (Re.none).flat.length = 1 := rfl
    rw [e1]
    clear e1 hl
    go_enter Try.func126, Try.ntmps126
    go_wp2_with fail
    refine (l2Split0_c _ 1 0 w H.out (by first | decide | exact .inl ⟨rfl, ht.1, ht.2⟩) (by decide)).mono ?_
    rintro e w1 ⟨va, vb, rfl, hb1, hva, hvb⟩
    obtain ⟨aa, ca, rfl, _⟩ := hva.out.shape
    obtain ⟨ab, cb, rfl, _⟩ := hvb.out.shape
    obtain ⟨b, off, rfl, k0, k1⟩ := (H.out.stay (kpB hb1)).at (k := 0) (by show 0 < 1; decide)
    replace k0 : w1.cell? ⟨b, off, none⟩ = some (.int .i64 1) := by simpa [Re.flat] using k0
    clear k1
    go_wp2
    go_ret
    exact ⟨rfl, hb1⟩
  | empty =>
    intro ht hl v w h
    have H := Lib.hid h
    obtain ⟨ad, cap, rfl, _⟩ := h.shape
    clear h
    replace H : Hid (Pairs S w (.slice ad 1 cap) [(2, 0)]) := H
    have e1 : (Re.empty).flat.length = 1 := rfl
    rw [e1]
    clear e1 hl
    go_enter Try.func126, Try.ntmps126
    go_wp2_with fail
    refine (l2Split0_c _ 2 0 w H.out (by first | decide | exact .inl ⟨rfl, ht.1, ht.2⟩) (by decide)).mono ?_
    rintro e w1 ⟨va, vb, rfl, hb1, hva, hvb⟩
    obtain ⟨aa, ca, rfl, _⟩ := hva.out.shape
    obtain ⟨ab, cb, rfl, _⟩ := hvb.out.shape
    obtain ⟨b, off, rfl, k0, k1⟩ := (H.out.stay (kpB hb1)).at (k := 0) (by show 0 < 1; decide)
    replace k0 : w1.cell? ⟨b, off, none⟩ = some (.int .i64 2) := by simpa [Re.flat] using k0
    clear k1
    go_wp2
    go_ret
    exact ⟨rfl, hb1⟩
  | letter c =>
    intro ht hl v w h
    have H := Lib.hid h
    obtain ⟨ad, cap, rfl, _⟩ := h.shape
    clear h
    replace H : Hid (Pairs S w (.slice ad 1 cap) [(3, c)]) := H
    have e1 : (Re.letter c).flat.length = 1 := rfl
    rw [e1]
    clear e1 hl
    go_enter Try.func126, Try.ntmps126
    go_wp2_with fail
    refine (l2Split0_c _ 3 c w H.out (by first | decide | exact .inl ⟨rfl, ht.1, ht.2⟩) (by decide)).mono ?_
    rintro e w1 ⟨va, vb, rfl, hb1, hva, hvb⟩
    obtain ⟨aa, ca, rfl, _⟩ := hva.out.shape
    obtain ⟨ab, cb, rfl, _⟩ := hvb.out.shape
    obtain ⟨b, off, rfl, k0, k1⟩ := (H.out.stay (kpB hb1)).at (k := 0) (by show 0 < 1; decide)
    replace k0 : w1.cell? ⟨b, off, none⟩ = some (.int .i64 3) := by simpa [Re.flat] using k0
    clear k1
    go_wp2
    go_ret
    exact ⟨rfl, hb1⟩
  | join a c iha ihc =>
    intro ht hl v w h
    have H := Lib.hid h
    obtain ⟨ad, cap, rfl, _⟩ := h.shape
    clear h
    replace H : Hid (Pairs S w (.slice ad (Re.join a c).flat.length cap) (a.flat ++ c.flat ++ [(4, 0)])) := H
    have hl' : (a.flat ++ c.flat).length ≤ 900 := by have : (a.flat ++ c.flat ++ [(4, 0)]).length ≤ 900 := hl; rw [List.length_append] at this; omega
    have hla : a.flat.length ≤ 900 := by rw [List.length_append] at hl'; omega
    have hlc : c.flat.length ≤ 900 := by rw [List.length_append] at hl'; omega
    obtain ⟨n, hn⟩ : ∃ n, n = (a.flat ++ c.flat).length := ⟨_, rfl⟩
    have e1 : (Re.join a c).flat.length = n + 1 := by rw [hn]; show (a.flat ++ c.flat ++ [(4, 0)]).length = _; rw [List.length_append]; rfl
    have hn9 : (n : Int) ≤ 900 := by omega
    replace H : Hid (Pairs S w (.slice ad (n + 1) cap) (a.flat ++ c.flat ++ [(4, 0)])) := by have h := H.out; rw [e1] at h; exact h
    rw [e1]
    have IHA := Lib.hid (iha ht.1 hla)
    have IHC := Lib.hid (ihc ht.2 hlc)
    have HP := a.flat_pos
    clear iha ihc
    have HN := Lib.hid hn
    clear hn e1 hl hla hlc
    go_enter Try.func126, Try.ntmps126
    go_wp2_with fail
    refine (l2Split2_c _ a.flat c 4 0 w ht.2 H.out (by decide) (by decide) hl' HP).mono ?_
    rintro e w1 ⟨va, vb, rfl, hb1, hva, hvb⟩
    obtain ⟨aa, ca, rfl, _⟩ := hva.out.shape
    obtain ⟨ab, cb, rfl, _⟩ := hvb.out.shape
    obtain ⟨b, off, rfl, k0, k1⟩ := (H.out.stay (kpB hb1)).at (k := n) (by rw [HN.out, List.length_append (bs := [(_, _)])]; exact Nat.lt_succ_self _)
    have k2 : Hid (w1.cell? ⟨b, off + n * 2, none⟩ = some (.int .i64 4)) := Lib.hid (by have hn := HN.out; subst hn; rw [flatOne] at k0; exact k0)
    clear k0 k1 hl' HN
    have k3 := k2.out
    go_wp2_with fail
    refine (IHA.out _ w1 hva.out).mono ?_
    rintro e w2 ⟨rfl, hb2⟩
    have hvb2 := Lib.hid (hvb.out.stay (kpB hb2))
    have HB2 := Lib.hid (hb1.trans (hb2.mono hb1.size))
    clear hb1 hb2 hva hvb k2 k3
    have hnul : (Re.join a c).nul = (a.nul && c.nul) := rfl
    rw [hnul]
    clear hnul
    cases ha : a.nul
    · skip
      go_wp2
      go_ret
      exact ⟨congrArg (fun b => Ending.returned (Value.bool b)) (show false = (Re.join a c).nul from (by simp [Re.nul, ha])), HB2.out⟩
    · skip
      go_wp2_with fail
      refine (IHC.out _ w2 hvb2.out).mono ?_
      rintro e w3 ⟨rfl, hb3⟩
      have HB3 := Lib.hid (HB2.out.trans (hb3.mono HB2.out.size))
      clear hb3
      cases hc : c.nul
      · skip
        go_wp2
        go_ret
        exact ⟨congrArg (fun b => Ending.returned (Value.bool b)) (show false = (Re.join a c).nul from (by simp [Re.nul, ha, hc])), HB3.out⟩
      · skip
        go_wp2
        go_ret
        exact ⟨congrArg (fun b => Ending.returned (Value.bool b)) (show true = (Re.join a c).nul from (by simp [Re.nul, ha, hc])), HB3.out⟩
  | either a c iha ihc =>
    intro ht hl v w h
    have H := Lib.hid h
    obtain ⟨ad, cap, rfl, _⟩ := h.shape
    clear h
    replace H : Hid (Pairs S w (.slice ad (Re.either a c).flat.length cap) (a.flat ++ c.flat ++ [(5, 0)])) := H
    have hl' : (a.flat ++ c.flat).length ≤ 900 := by have : (a.flat ++ c.flat ++ [(5, 0)]).length ≤ 900 := hl; rw [List.length_append] at this; omega
    have hla : a.flat.length ≤ 900 := by rw [List.length_append] at hl'; omega
    have hlc : c.flat.length ≤ 900 := by rw [List.length_append] at hl'; omega
    obtain ⟨n, hn⟩ : ∃ n, n = (a.flat ++ c.flat).length := ⟨_, rfl⟩
    have e1 : (Re.either a c).flat.length = n + 1 := by rw [hn]; show (a.flat ++ c.flat ++ [(5, 0)]).length = _; rw [List.length_append]; rfl
    have hn9 : (n : Int) ≤ 900 := by omega
    replace H : Hid (Pairs S w (.slice ad (n + 1) cap) (a.flat ++ c.flat ++ [(5, 0)])) := by have h := H.out; rw [e1] at h; exact h
    rw [e1]
    have IHA := Lib.hid (iha ht.1 hla)
    have IHC := Lib.hid (ihc ht.2 hlc)
    have HP := a.flat_pos
    clear iha ihc
    have HN := Lib.hid hn
    clear hn e1 hl hla hlc
    go_enter Try.func126, Try.ntmps126
    go_wp2_with fail
    refine (l2Split2_c _ a.flat c 5 0 w ht.2 H.out (by decide) (by decide) hl' HP).mono ?_
    rintro e w1 ⟨va, vb, rfl, hb1, hva, hvb⟩
    obtain ⟨aa, ca, rfl, _⟩ := hva.out.shape
    obtain ⟨ab, cb, rfl, _⟩ := hvb.out.shape
    obtain ⟨b, off, rfl, k0, k1⟩ := (H.out.stay (kpB hb1)).at (k := n) (by rw [HN.out, List.length_append (bs := [(_, _)])]; exact Nat.lt_succ_self _)
    have k2 : Hid (w1.cell? ⟨b, off + n * 2, none⟩ = some (.int .i64 5)) := Lib.hid (by have hn := HN.out; subst hn; rw [flatOne] at k0; exact k0)
    clear k0 k1 hl' HN
    have k3 := k2.out
    go_wp2_with fail
    refine (IHA.out _ w1 hva.out).mono ?_
    rintro e w2 ⟨rfl, hb2⟩
    have hvb2 := Lib.hid (hvb.out.stay (kpB hb2))
    have HB2 := Lib.hid (hb1.trans (hb2.mono hb1.size))
    clear hb1 hb2 hva hvb k2 k3
    have hnul : (Re.either a c).nul = (a.nul || c.nul) := rfl
    rw [hnul]
    clear hnul
    cases ha : a.nul
    · skip
      go_wp2_with fail
      refine (IHC.out _ w2 hvb2.out).mono ?_
      rintro e w3 ⟨rfl, hb3⟩
      have HB3 := Lib.hid (HB2.out.trans (hb3.mono HB2.out.size))
      clear hb3
      cases hc : c.nul
      · skip
        go_wp2
        go_ret
        exact ⟨congrArg (fun b => Ending.returned (Value.bool b)) (show false = (Re.either a c).nul from (by simp [Re.nul, ha, hc])), HB3.out⟩
      · skip
        go_wp2
        go_ret
        exact ⟨congrArg (fun b => Ending.returned (Value.bool b)) (show true = (Re.either a c).nul from (by simp [Re.nul, ha, hc])), HB3.out⟩
    · skip
      go_wp2
      go_ret
      exact ⟨congrArg (fun b => Ending.returned (Value.bool b)) (show true = (Re.either a c).nul from (by simp [Re.nul, ha])), HB2.out⟩
  | both a c iha ihc =>
    intro ht hl v w h
    have H := Lib.hid h
    obtain ⟨ad, cap, rfl, _⟩ := h.shape
    clear h
    replace H : Hid (Pairs S w (.slice ad (Re.both a c).flat.length cap) (a.flat ++ c.flat ++ [(6, 0)])) := H
    have hl' : (a.flat ++ c.flat).length ≤ 900 := by have : (a.flat ++ c.flat ++ [(6, 0)]).length ≤ 900 := hl; rw [List.length_append] at this; omega
    have hla : a.flat.length ≤ 900 := by rw [List.length_append] at hl'; omega
    have hlc : c.flat.length ≤ 900 := by rw [List.length_append] at hl'; omega
    obtain ⟨n, hn⟩ : ∃ n, n = (a.flat ++ c.flat).length := ⟨_, rfl⟩
    have e1 : (Re.both a c).flat.length = n + 1 := by rw [hn]; show (a.flat ++ c.flat ++ [(6, 0)]).length = _; rw [List.length_append]; rfl
    have hn9 : (n : Int) ≤ 900 := by omega
    replace H : Hid (Pairs S w (.slice ad (n + 1) cap) (a.flat ++ c.flat ++ [(6, 0)])) := by have h := H.out; rw [e1] at h; exact h
    rw [e1]
    have IHA := Lib.hid (iha ht.1 hla)
    have IHC := Lib.hid (ihc ht.2 hlc)
    have HP := a.flat_pos
    clear iha ihc
    have HN := Lib.hid hn
    clear hn e1 hl hla hlc
    go_enter Try.func126, Try.ntmps126
    go_wp2_with fail
    refine (l2Split2_c _ a.flat c 6 0 w ht.2 H.out (by decide) (by decide) hl' HP).mono ?_
    rintro e w1 ⟨va, vb, rfl, hb1, hva, hvb⟩
    obtain ⟨aa, ca, rfl, _⟩ := hva.out.shape
    obtain ⟨ab, cb, rfl, _⟩ := hvb.out.shape
    obtain ⟨b, off, rfl, k0, k1⟩ := (H.out.stay (kpB hb1)).at (k := n) (by rw [HN.out, List.length_append (bs := [(_, _)])]; exact Nat.lt_succ_self _)
    have k2 : Hid (w1.cell? ⟨b, off + n * 2, none⟩ = some (.int .i64 6)) := Lib.hid (by have hn := HN.out; subst hn; rw [flatOne] at k0; exact k0)
    clear k0 k1 hl' HN
    have k3 := k2.out
    go_wp2_with fail
    refine (IHA.out _ w1 hva.out).mono ?_
    rintro e w2 ⟨rfl, hb2⟩
    have hvb2 := Lib.hid (hvb.out.stay (kpB hb2))
    have HB2 := Lib.hid (hb1.trans (hb2.mono hb1.size))
    clear hb1 hb2 hva hvb k2 k3
    have hnul : (Re.both a c).nul = (a.nul && c.nul) := rfl
    rw [hnul]
    clear hnul
    cases ha : a.nul
    · skip
      go_wp2
      go_ret
      exact ⟨congrArg (fun b => Ending.returned (Value.bool b)) (show false = (Re.both a c).nul from (by simp [Re.nul, ha])), HB2.out⟩
    · skip
      go_wp2_with fail
      refine (IHC.out _ w2 hvb2.out).mono ?_
      rintro e w3 ⟨rfl, hb3⟩
      have HB3 := Lib.hid (HB2.out.trans (hb3.mono HB2.out.size))
      clear hb3
      cases hc : c.nul
      · skip
        go_wp2
        go_ret
        exact ⟨congrArg (fun b => Ending.returned (Value.bool b)) (show false = (Re.both a c).nul from (by simp [Re.nul, ha, hc])), HB3.out⟩
      · skip
        go_wp2
        go_ret
        exact ⟨congrArg (fun b => Ending.returned (Value.bool b)) (show true = (Re.both a c).nul from (by simp [Re.nul, ha, hc])), HB3.out⟩
  | not a iha =>
    intro ht hl v w h
    have H := Lib.hid h
    obtain ⟨ad, cap, rfl, _⟩ := h.shape
    clear h
    replace H : Hid (Pairs S w (.slice ad (Re.not a).flat.length cap) (a.flat ++ [(7, 0)])) := H
    have hl' : a.flat.length ≤ 900 := by have : (a.flat ++ [(7, 0)]).length ≤ 900 := hl; rw [List.length_append] at this; omega
    obtain ⟨n, hn⟩ : ∃ n, n = a.flat.length := ⟨_, rfl⟩
    have e1 : (Re.not a).flat.length = n + 1 := by rw [hn]; show (a.flat ++ [(7, 0)]).length = _; rw [List.length_append]; rfl
    have hn9 : (n : Int) ≤ 900 := by omega
    replace H : Hid (Pairs S w (.slice ad (n + 1) cap) (a.flat ++ [(7, 0)])) := by have h := H.out; rw [e1] at h; exact h
    rw [e1]
    have IHA := Lib.hid (iha ht hl')
    have HP := a.flat_pos
    have HN := Lib.hid hn
    clear iha hn e1 hl
    go_enter Try.func126, Try.ntmps126
    go_wp2_with fail
    refine (l2Split1_c _ a.flat 7 0 w H.out (by decide) (by decide) hl' HP).mono ?_
    rintro e w1 ⟨va, vb, rfl, hb1, hva, hvb⟩
    obtain ⟨aa, ca, rfl, _⟩ := hva.out.shape
    obtain ⟨ab, cb, rfl, _⟩ := hvb.out.shape
    obtain ⟨b, off, rfl, k0, k1⟩ := (H.out.stay (kpB hb1)).at (k := n) (by rw [HN.out, List.length_append]; exact Nat.lt_succ_self _)
    have k2 : Hid (w1.cell? ⟨b, off + n * 2, none⟩ = some (.int .i64 7)) := Lib.hid (by have hn := HN.out; subst hn; rw [flatOne] at k0; exact k0)
    clear k0 k1 hl' HN
    have k3 := k2.out
    go_wp2_with fail
    refine (IHA.out _ w1 hva.out).mono ?_
    rintro e w2 ⟨rfl, hb2⟩
    have HB2 := Lib.hid (hb1.trans (hb2.mono hb1.size))
    clear hb1 hb2 hva hvb k2 k3
    have hnul : (Re.not a).nul = !a.nul := rfl
    rw [hnul]
    clear hnul
    cases ha : a.nul
    · go_wp2
      go_ret
      exact ⟨congrArg (fun b => Ending.returned (Value.bool b)) (show true = (Re.not a).nul from (by simp [Re.nul, ha])), HB2.out⟩
    · go_wp2
      go_ret
      exact ⟨congrArg (fun b => Ending.returned (Value.bool b)) (show false = (Re.not a).nul from (by simp [Re.nul, ha])), HB2.out⟩
  | star a iha =>
    intro ht hl v w h
    have H := Lib.hid h
    obtain ⟨ad, cap, rfl, _⟩ := h.shape
    clear h
    replace H : Hid (Pairs S w (.slice ad (Re.star a).flat.length cap) (a.flat ++ [(8, 0)])) := H
    have hl' : a.flat.length ≤ 900 := by have : (a.flat ++ [(8, 0)]).length ≤ 900 := hl; rw [List.length_append] at this; omega
    obtain ⟨n, hn⟩ : ∃ n, n = a.flat.length := ⟨_, rfl⟩
    have e1 : (Re.star a).flat.length = n + 1 := by rw [hn]; show (a.flat ++ [(8, 0)]).length = _; rw [List.length_append]; rfl
    have hn9 : (n : Int) ≤ 900 := by omega
    replace H : Hid (Pairs S w (.slice ad (n + 1) cap) (a.flat ++ [(8, 0)])) := by have h := H.out; rw [e1] at h; exact h
    rw [e1]
    have IHA := Lib.hid (iha ht hl')
    have HP := a.flat_pos
    have HN := Lib.hid hn
    clear iha hn e1 hl
    go_enter Try.func126, Try.ntmps126
    go_wp2_with fail
    refine (l2Split1_c _ a.flat 8 0 w H.out (by decide) (by decide) hl' HP).mono ?_
    rintro e w1 ⟨va, vb, rfl, hb1, hva, hvb⟩
    obtain ⟨aa, ca, rfl, _⟩ := hva.out.shape
    obtain ⟨ab, cb, rfl, _⟩ := hvb.out.shape
    obtain ⟨b, off, rfl, k0, k1⟩ := (H.out.stay (kpB hb1)).at (k := n) (by rw [HN.out, List.length_append]; exact Nat.lt_succ_self _)
    have k2 : Hid (w1.cell? ⟨b, off + n * 2, none⟩ = some (.int .i64 8)) := Lib.hid (by have hn := HN.out; subst hn; rw [flatOne] at k0; exact k0)
    clear k0 k1 hl' HN
    have k3 := k2.out
    go_wp2
    go_ret
    exact ⟨rfl, hb1⟩
end Go.Proofs.Ytbcjhiponbfbnaa
