/- The first and the last letters of an expression: the reference's answer. -/
import Derived.Test.YtnjddneelkdmoaaFtp
import Derived.Test.YtnjddneelkdmoaaJn
set_option linter.unusedSimpArgs false
set_option linter.unusedVariables false
set_option linter.unusedSectionVars false
namespace Go.Proofs.Ytnjddneelkdmoaa
open Go.RowKit
set_option maxRecDepth 100000
variable {S T : Nat → Prop}
/-- The call answers two lists of ints of its own. -/
def R2I (w : World) (xs ys : List Int) (e : Ending) (w' : World) : Prop := ∃ va vb, e = .returned (.tuple #[va, vb]) ∧ Below w.heap.size w w' ∧ Hid (OwnI w' w.heap.size va xs) ∧ Hid (OwnI w' w.heap.size vb ys)
theorem lit0 (w : World) {base : Nat} (hb : base ≤ w.heap.size) : OwnI (w.alloc (.cells #[] 3)) base (.slice (some ⟨w.heap.size, 0, none⟩) 0 0) [] := ownLit (n := 0) [] hb (by omega) rfl
/-- The four empty lists. -/
def four (w : World) : World := (((w.alloc (.cells #[] 3)).alloc (.cells #[] 3)).alloc (.cells #[] 3)).alloc (.cells #[] 3)
theorem fourBel (w : World) : Below w.heap.size w (four w) := ((((Below.refl _ _).alloc (Nat.le_refl _) _).alloc (by simp) _).alloc (by simp; omega) _).alloc (by simp; omega) _
theorem alBel (w : World) (o : Obj) : Below w.heap.size w (w.alloc o) := (Below.refl _ _).alloc (Nat.le_refl _) _
theorem four0 (w : World) {base : Nat} (hb : base ≤ w.heap.size) : OwnI (four w) base (.slice (some ⟨w.heap.size, 0, none⟩) 0 0) [] := (((lit0 w hb).stay (alBel _ _)).stay (alBel _ _)).stay (alBel _ _)
theorem four1 (w : World) {base : Nat} (hb : base ≤ w.heap.size) : OwnI (four w) base (.slice (some ⟨w.heap.size + 1, 0, none⟩) 0 0) [] := by
  have h := ((lit0 (w.alloc (.cells #[] 3)) (base := base) (by simp; omega)).stay (alBel _ (.cells #[] 3))).stay (alBel _ (.cells #[] 3))
  simpa [four] using h
theorem fourSz (w : World) : (four w).heap.size = w.heap.size + 1 + 1 + 1 + 1 := by simp [four]
theorem oneLit (w : World) (f : Int) {base : Nat} (hb : base ≤ w.heap.size) : OwnI (w.alloc (.cells #[.int .i64 f] 3)) base (.slice (some ⟨w.heap.size, 0, none⟩) 1 1) [f] := ownLit (n := 1) [.int .i64 f] hb (by omega) rfl
set_option maxHeartbeats 2000000 in
theorem l12Ends_c : ∀ (t : Re), t.wf → t.flat.length ≤ 900 → ∀ (v : Value) (f : Int) (w : World), 0 ≤ f → f ≤ 1000000 - t.flat.length → Pairs S w v t.flat → Calls Try.prog 92 #[v, .int .i64 f] w (R2I w (t.fps f) (t.lps f)) := by
  intro t
  induction t with
  | none =>
    intro ht hl v f w hf0 hf1 h
    have H := Lib.hid h
    obtain ⟨ad, cap, rfl, _⟩ := h.shape
    clear h
    replace H : Hid (Pairs S w (.slice ad 1 cap) [(1, 0)]) := H
    have e1 : (Re.none).flat.length = 1 := rfl
    rw [e1] at hf1 ⊢
    clear e1 hl
    have hf2 : f ≤ 999999 := by omega
    clear hf1
    go_enter Try.func92, Try.ntmps92
    go_wp2_with fail
    refine (l2Split0_c _ 1 0 w H.out (by first | decide | exact .inl ⟨rfl, ht.1, ht.2⟩) (by decide)).mono ?_
    rintro e w1 ⟨va, vb, rfl, hb1, hva, hvb⟩
    obtain ⟨aa, ca, rfl, _⟩ := hva.out.shape
    obtain ⟨ab, cb, rfl, _⟩ := hvb.out.shape
    have hs1 := hb1.size
    obtain ⟨W, hW⟩ : ∃ W, W = four w1 := ⟨_, rfl⟩
    have hbW := Lib.hid (hb1.trans ((fourBel w1).mono hs1))
    have ho0 := Lib.hid (four0 w1 (base := w.heap.size) hs1)
    have ho1 := Lib.hid (four1 w1 (base := w.heap.size) hs1)
    rw [← hW] at hbW ho0 ho1
    obtain ⟨b, off, rfl, k0, k1⟩ := ((H.out.stay (kpB hb1)).stay (kpB (fourBel w1))).at (k := 0) (by show 0 < 1; decide)
    replace k0 : W.cell? ⟨b, off, none⟩ = some (.int .i64 1) := by rw [hW]; simpa [Re.flat] using k0
    clear k1 hva hvb
    have HW := Lib.hid hW
    rw [hW] at k0
    unfold four at k0
    clear hW
    go_wp2
    go_ret2
    exact ⟨_, _, rfl, hb1.trans ((fourBel w1).mono hs1), Lib.hid (four0 w1 hs1), Lib.hid (four1 w1 hs1)⟩
  | empty =>
    intro ht hl v f w hf0 hf1 h
    have H := Lib.hid h
    obtain ⟨ad, cap, rfl, _⟩ := h.shape
    clear h
    replace H : Hid (Pairs S w (.slice ad 1 cap) [(2, 0)]) := H
    have e1 : (Re.empty).flat.length = 1 := rfl
    rw [e1] at hf1 ⊢
    clear e1 hl
    have hf2 : f ≤ 999999 := by omega
    clear hf1
    go_enter Try.func92, Try.ntmps92
    go_wp2_with fail
    refine (l2Split0_c _ 2 0 w H.out (by first | decide | exact .inl ⟨rfl, ht.1, ht.2⟩) (by decide)).mono ?_
    rintro e w1 ⟨va, vb, rfl, hb1, hva, hvb⟩
    obtain ⟨aa, ca, rfl, _⟩ := hva.out.shape
    obtain ⟨ab, cb, rfl, _⟩ := hvb.out.shape
    have hs1 := hb1.size
    obtain ⟨W, hW⟩ : ∃ W, W = four w1 := ⟨_, rfl⟩
    have hbW := Lib.hid (hb1.trans ((fourBel w1).mono hs1))
    have ho0 := Lib.hid (four0 w1 (base := w.heap.size) hs1)
    have ho1 := Lib.hid (four1 w1 (base := w.heap.size) hs1)
    rw [← hW] at hbW ho0 ho1
    obtain ⟨b, off, rfl, k0, k1⟩ := ((H.out.stay (kpB hb1)).stay (kpB (fourBel w1))).at (k := 0) (by show 0 < 1; decide)
    replace k0 : W.cell? ⟨b, off, none⟩ = some (.int .i64 2) := by rw [hW]; simpa [Re.flat] using k0
    clear k1 hva hvb
    have HW := Lib.hid hW
    rw [hW] at k0
    unfold four at k0
    clear hW
    go_wp2
    go_ret2
    exact ⟨_, _, rfl, hb1.trans ((fourBel w1).mono hs1), Lib.hid (four0 w1 hs1), Lib.hid (four1 w1 hs1)⟩
  | letter c =>
    intro ht hl v f w hf0 hf1 h
    have H := Lib.hid h
    obtain ⟨ad, cap, rfl, _⟩ := h.shape
    clear h
    replace H : Hid (Pairs S w (.slice ad 1 cap) [(3, c)]) := H
    have e1 : (Re.letter c).flat.length = 1 := rfl
    rw [e1] at hf1 ⊢
    clear e1 hl
    have hf2 : f ≤ 999999 := by omega
    clear hf1
    go_enter Try.func92, Try.ntmps92
    go_wp2_with fail
    refine (l2Split0_c _ 3 c w H.out (by first | decide | exact .inl ⟨rfl, ht.1, ht.2⟩) (by decide)).mono ?_
    rintro e w1 ⟨va, vb, rfl, hb1, hva, hvb⟩
    obtain ⟨aa, ca, rfl, _⟩ := hva.out.shape
    obtain ⟨ab, cb, rfl, _⟩ := hvb.out.shape
    have hs1 := hb1.size
    obtain ⟨W, hW⟩ : ∃ W, W = four w1 := ⟨_, rfl⟩
    have hbW := Lib.hid (hb1.trans ((fourBel w1).mono hs1))
    have ho0 := Lib.hid (four0 w1 (base := w.heap.size) hs1)
    have ho1 := Lib.hid (four1 w1 (base := w.heap.size) hs1)
    rw [← hW] at hbW ho0 ho1
    obtain ⟨b, off, rfl, k0, k1⟩ := ((H.out.stay (kpB hb1)).stay (kpB (fourBel w1))).at (k := 0) (by show 0 < 1; decide)
    replace k0 : W.cell? ⟨b, off, none⟩ = some (.int .i64 3) := by rw [hW]; simpa [Re.flat] using k0
    clear k1 hva hvb
    have HW := Lib.hid hW
    rw [hW] at k0
    unfold four at k0
    clear hW
    go_wp2
    go_ret2
    have q0 := (oneLit (four w1) f (base := w.heap.size) (by have := fourSz w1; omega)).stay (alBel _ (.cells #[.int .i64 f] 3))
    have q1 := oneLit ((four w1).alloc (.cells #[.int .i64 f] 3)) f (base := w.heap.size) (by have := fourSz w1; simp; omega)
    rw [fourSz] at q0
    rw [World.size_alloc, fourSz] at q1
    exact ⟨_, _, rfl, hb1.trans ((((fourBel w1).alloc (by have := fourSz w1; omega) _).alloc (by have := fourSz w1; simp; omega) _).mono hs1), Lib.hid q0, Lib.hid q1⟩
  | join a c iha ihc =>
    intro ht hl v f w hf0 hf1 h
    have H := Lib.hid h
    obtain ⟨ad, cap, rfl, _⟩ := h.shape
    clear h
    replace H : Hid (Pairs S w (.slice ad (Re.join a c).flat.length cap) (a.flat ++ c.flat ++ [(4, 0)])) := H
    obtain ⟨n, hn⟩ : ∃ n, n = (a.flat ++ c.flat).length := ⟨_, rfl⟩
    have e1 : (Re.join a c).flat.length = n + 1 := by rw [hn]; show (a.flat ++ c.flat ++ [(4, 0)]).length = _; rw [List.length_append]; rfl
    replace H : Hid (Pairs S w (.slice ad (n + 1) cap) (a.flat ++ c.flat ++ [(4, 0)])) := by have h := H.out; rw [e1] at h; exact h
    rw [e1] at hl hf1 ⊢
    have hl' : (a.flat ++ c.flat).length ≤ 900 := by omega
    have hnn : n = a.flat.length + c.flat.length := by rw [hn, List.length_append]
    have hla : a.flat.length ≤ 900 := by omega
    have hlc : c.flat.length ≤ 900 := by omega
    have hf2 : f ≤ 999999 := by omega
    have hn9 : (n : Int) ≤ 900 := by omega
    have hfa : f ≤ 1000000 - (a.flat.length : Int) := by omega
    have hfc : f + (a.flat.length : Int) ≤ 1000000 - (c.flat.length : Int) := by omega
    have hfc0 : 0 ≤ f + (a.flat.length : Int) := by omega
    have hla9 : (a.flat.length : Int) ≤ 900 := by omega
    have HP := a.flat_pos
    have HPc := c.flat_pos
    have hnp : (0 : Int) < (a.flat.length : Int) := by omega
    have hnpc : (0 : Int) < (c.flat.length : Int) := by omega
    have IHA : Hid (∀ (v : Value) (w : World), Pairs S w v a.flat → Calls Try.prog 92 #[v, .int .i64 f] w (R2I w (a.fps f) (a.lps f))) := Lib.hid (fun v w h => iha ht.1 hla v f w hf0 hfa h)
    have IHC : Hid (∀ (v : Value) (w : World), Pairs S w v c.flat → Calls Try.prog 92 #[v, .int .i64 (f + (a.flat.length : Int))] w (R2I w (c.fps (f + (a.flat.length : Int))) (c.lps (f + (a.flat.length : Int))))) := Lib.hid (fun v w h => ihc ht.2 hlc v _ w hfc0 hfc h)
    have UA := Lib.hid ((fps_asc a f).app (fps_asc c (f + (a.flat.length : Int))))
    have UB := Lib.hid ((lps_asc a f).app (lps_asc c (f + (a.flat.length : Int))))
    have HN := Lib.hid hn
    have HL := Lib.hid hl'
    have HLA := Lib.hid hla
    have HLC := Lib.hid hlc
    clear iha ihc hn e1 hl hl' hf1 hfa hfc hnn hla hlc
    go_enter Try.func92, Try.ntmps92
    go_wp2_with fail
    refine (l2Split2_c _ a.flat c 4 0 w ht.2 H.out (by decide) (by decide) HL.out HP).mono ?_
    rintro e w1 ⟨va, vb, rfl, hb1, hva, hvb⟩
    obtain ⟨aa, ca, rfl, _⟩ := hva.out.shape
    obtain ⟨ab, cb, rfl, _⟩ := hvb.out.shape
    have hs1 := hb1.size
    obtain ⟨W, hW⟩ : ∃ W, W = four w1 := ⟨_, rfl⟩
    have hbW : Hid (Below w.heap.size w W) := by rw [hW]; exact hb1.trans ((fourBel w1).mono hs1)
    have hxa : Hid (Pairs S W (.slice aa a.flat.length ca) a.flat) := by rw [hW]; exact hva.out.stay (kpB (fourBel w1))
    have hxc : Hid (Pairs S W (.slice ab c.flat.length cb) c.flat) := by rw [hW]; exact hvb.out.stay (kpB (fourBel w1))
    unfold four at hW
    have HW2 := Lib.hid hW
    clear hW hva hvb
    go_wp2_with fail
    rw [← HW2.out]
    refine (IHA.out _ W hxa.out).mono ?_
    rintro e w2 ⟨y1, y2, rfl, hb2, hy1, hy2⟩
    have hws := hbW.out.size
    have ho1 := Lib.hid (ownBase hy1.out hws)
    have ho2 := Lib.hid (ownBase hy2.out hws)
    have HB2 := Lib.hid (hbW.out.trans (hb2.mono hws))
    have hxa2 := Lib.hid (hxa.out.stay (kpB hb2))
    have hxc2 := Lib.hid (hxc.out.stay (kpB hb2))
    obtain ⟨a1, c1, rfl, _⟩ := hy1.out.shape
    obtain ⟨a2, c2, rfl, _⟩ := hy2.out.shape
    clear hy1 hy2 hb2 hb1 hxa hxc hbW HW2 hws
    go_wp2_with fail
    refine (IHC.out _ w2 hxc2.out).mono ?_
    rintro e w3 ⟨z1, z2, rfl, hb3, hz1, hz2⟩
    have hs2 := HB2.out.size
    have HB3 := Lib.hid (HB2.out.trans (hb3.mono hs2))
    have hp1 := Lib.hid (ownStay ho1.out hb3)
    have hp2 := Lib.hid (ownStay ho2.out hb3)
    have hq1 := Lib.hid (ownBase hz1.out hs2)
    have hq2 := Lib.hid (ownBase hz2.out hs2)
    have hxa3 := Lib.hid (hxa2.out.stay (kpB hb3))
    have hxc3 := Lib.hid (hxc2.out.stay (kpB hb3))
    obtain ⟨a3, c3, rfl, _⟩ := hz1.out.shape
    obtain ⟨a4, c4, rfl, _⟩ := hz2.out.shape
    obtain ⟨b, off, rfl, k0, k1⟩ := (H.out.stay (kpB HB3.out)).at (k := n) (by rw [HN.out, List.length_append (bs := [(_, _)])]; exact Nat.lt_succ_self _)
    have k2 : Hid (w3.cell? ⟨b, off + n * 2, none⟩ = some (.int .i64 4)) := Lib.hid (by have hn := HN.out; subst hn; rw [flatOne] at k0; exact k0)
    clear k0 k1 HN HL hb3 hz1 hz2 ho1 ho2 HB2 hs2 hxa2 hxc2 IHA IHC
    have k3 := k2.out
    go_wp2_with fail
    refine (l2Empty_c a ht.1 HLA.out _ w3 hxa3.out).mono ?_
    rintro e w4 ⟨rfl, hb4⟩
    have hxc4 := Lib.hid (hxc3.out.stay (kpB hb4))
    replace hp1 := Lib.hid (ownStay hp1.out hb4)
    replace hp2 := Lib.hid (ownStay hp2.out hb4)
    replace hq1 := Lib.hid (ownStay hq1.out hb4)
    replace hq2 := Lib.hid (ownStay hq2.out hb4)
    have HB4 := Lib.hid (HB3.out.trans (hb4.mono HB3.out.size))
    clear k2 k3 hb4 hxa3 hxc3
    cases hna : a.nul
    · skip
      go_wp2_with fail
      refine (l2Empty_c c ht.2 HLC.out _ w4 hxc4.out).mono ?_
      rintro e w6 ⟨rfl, hb6⟩
      replace hp1 := Lib.hid (ownStay hp1.out hb6)
      replace hp2 := Lib.hid (ownStay hp2.out hb6)
      replace hq2 := Lib.hid (ownStay hq2.out hb6)
      have HB6 := Lib.hid (HB4.out.trans (hb6.mono HB4.out.size))
      clear hb6
      cases hnc : c.nul
      · skip
        go_wp2
        go_ret2
        exact ⟨_, _, rfl, HB6.out, Lib.hid (by have e : (Re.join a c).fps f = _ := if_neg (by rw [hna]; decide); rw [e]; exact hp1.out), Lib.hid (by have e : (Re.join a c).lps f = _ := if_neg (by rw [hnc]; decide); rw [e]; exact hq2.out)⟩
      · skip
        go_wp2_with fail
        refine (l12Join_c _ _ _ _ w6 (OwnI.rd hp2.out) (OwnI.rd hq2.out) UB.out.1 (by have h1 := UB.out.2.2; have h2 := HLA.out; have h3 := HLC.out; omega)).mono ?_
        rintro e w7 ⟨j2, rfl, hb7, hj2⟩
        obtain ⟨J2, hJ2⟩ : ∃ J, J = a.lps f ++ c.lps (f + (a.flat.length : Int)) := ⟨_, rfl⟩
        rw [← hJ2] at hj2
        replace hJ2 := Lib.hid hJ2
        have hg2 := Lib.hid (ownBase hj2.out HB6.out.size)
        obtain ⟨g2, i2, rfl, _⟩ := hj2.out.shape
        replace hp1 := Lib.hid (ownStay hp1.out hb7)
        have HB7 := Lib.hid (HB6.out.trans (hb7.mono HB6.out.size))
        clear hb7 hj2
        go_wp2
        go_ret2
        exact ⟨_, _, rfl, HB7.out, Lib.hid (by have e : (Re.join a c).fps f = _ := if_neg (by rw [hna]; decide); rw [e]; exact hp1.out), Lib.hid (by have e : (Re.join a c).lps f = _ := if_pos (by rw [hnc]); rw [e, ← hJ2.out]; exact hg2.out)⟩
    · skip
      go_wp2_with fail
      refine (l12Join_c _ _ _ _ w4 (OwnI.rd hp1.out) (OwnI.rd hq1.out) UA.out.1 (by have h1 := UA.out.2.2; have h2 := HLA.out; have h3 := HLC.out; omega)).mono ?_
      rintro e w5 ⟨j1, rfl, hb5, hj1⟩
      obtain ⟨J1, hJ1⟩ : ∃ J, J = a.fps f ++ c.fps (f + (a.flat.length : Int)) := ⟨_, rfl⟩
      rw [← hJ1] at hj1
      replace hJ1 := Lib.hid hJ1
      have hg1 := Lib.hid (ownBase hj1.out HB4.out.size)
      obtain ⟨g1, i1, rfl, _⟩ := hj1.out.shape
      have hxc5 := Lib.hid (hxc4.out.stay (kpB hb5))
      replace hp2 := Lib.hid (ownStay hp2.out hb5)
      replace hq2 := Lib.hid (ownStay hq2.out hb5)
      have HB5 := Lib.hid (HB4.out.trans (hb5.mono HB4.out.size))
      clear hb5 hj1
      go_wp2_with fail
      refine (l2Empty_c c ht.2 HLC.out _ w5 hxc5.out).mono ?_
      rintro e w6 ⟨rfl, hb6⟩
      replace hg1 := Lib.hid (ownStay hg1.out hb6)
      replace hp2 := Lib.hid (ownStay hp2.out hb6)
      replace hq2 := Lib.hid (ownStay hq2.out hb6)
      have HB6 := Lib.hid (HB5.out.trans (hb6.mono HB5.out.size))
      clear hb6
      cases hnc : c.nul
      · skip
        go_wp2
        go_ret2
        exact ⟨_, _, rfl, HB6.out, Lib.hid (by have e : (Re.join a c).fps f = _ := if_pos (by rw [hna]); rw [e, ← hJ1.out]; exact hg1.out), Lib.hid (by have e : (Re.join a c).lps f = _ := if_neg (by rw [hnc]; decide); rw [e]; exact hq2.out)⟩
      · skip
        go_wp2_with fail
        refine (l12Join_c _ _ _ _ w6 (OwnI.rd hp2.out) (OwnI.rd hq2.out) UB.out.1 (by have h1 := UB.out.2.2; have h2 := HLA.out; have h3 := HLC.out; omega)).mono ?_
        rintro e w7 ⟨j2, rfl, hb7, hj2⟩
        obtain ⟨J2, hJ2⟩ : ∃ J, J = a.lps f ++ c.lps (f + (a.flat.length : Int)) := ⟨_, rfl⟩
        rw [← hJ2] at hj2
        replace hJ2 := Lib.hid hJ2
        have hg2 := Lib.hid (ownBase hj2.out HB6.out.size)
        obtain ⟨g2, i2, rfl, _⟩ := hj2.out.shape
        replace hg1 := Lib.hid (ownStay hg1.out hb7)
        have HB7 := Lib.hid (HB6.out.trans (hb7.mono HB6.out.size))
        clear hb7 hj2
        go_wp2
        go_ret2
        exact ⟨_, _, rfl, HB7.out, Lib.hid (by have e : (Re.join a c).fps f = _ := if_pos (by rw [hna]); rw [e, ← hJ1.out]; exact hg1.out), Lib.hid (by have e : (Re.join a c).lps f = _ := if_pos (by rw [hnc]); rw [e, ← hJ2.out]; exact hg2.out)⟩
  | either a c iha ihc =>
    intro ht hl v f w hf0 hf1 h
    have H := Lib.hid h
    obtain ⟨ad, cap, rfl, _⟩ := h.shape
    clear h
    replace H : Hid (Pairs S w (.slice ad (Re.either a c).flat.length cap) (a.flat ++ c.flat ++ [(5, 0)])) := H
    obtain ⟨n, hn⟩ : ∃ n, n = (a.flat ++ c.flat).length := ⟨_, rfl⟩
    have e1 : (Re.either a c).flat.length = n + 1 := by rw [hn]; show (a.flat ++ c.flat ++ [(5, 0)]).length = _; rw [List.length_append]; rfl
    replace H : Hid (Pairs S w (.slice ad (n + 1) cap) (a.flat ++ c.flat ++ [(5, 0)])) := by have h := H.out; rw [e1] at h; exact h
    rw [e1] at hl hf1 ⊢
    have hl' : (a.flat ++ c.flat).length ≤ 900 := by omega
    have hnn : n = a.flat.length + c.flat.length := by rw [hn, List.length_append]
    have hla : a.flat.length ≤ 900 := by omega
    have hlc : c.flat.length ≤ 900 := by omega
    have hf2 : f ≤ 999999 := by omega
    have hn9 : (n : Int) ≤ 900 := by omega
    have hfa : f ≤ 1000000 - (a.flat.length : Int) := by omega
    have hfc : f + (a.flat.length : Int) ≤ 1000000 - (c.flat.length : Int) := by omega
    have hfc0 : 0 ≤ f + (a.flat.length : Int) := by omega
    have hla9 : (a.flat.length : Int) ≤ 900 := by omega
    have HP := a.flat_pos
    have HPc := c.flat_pos
    have hnp : (0 : Int) < (a.flat.length : Int) := by omega
    have hnpc : (0 : Int) < (c.flat.length : Int) := by omega
    have IHA : Hid (∀ (v : Value) (w : World), Pairs S w v a.flat → Calls Try.prog 92 #[v, .int .i64 f] w (R2I w (a.fps f) (a.lps f))) := Lib.hid (fun v w h => iha ht.1 hla v f w hf0 hfa h)
    have IHC : Hid (∀ (v : Value) (w : World), Pairs S w v c.flat → Calls Try.prog 92 #[v, .int .i64 (f + (a.flat.length : Int))] w (R2I w (c.fps (f + (a.flat.length : Int))) (c.lps (f + (a.flat.length : Int))))) := Lib.hid (fun v w h => ihc ht.2 hlc v _ w hfc0 hfc h)
    have UA := Lib.hid ((fps_asc a f).app (fps_asc c (f + (a.flat.length : Int))))
    have UB := Lib.hid ((lps_asc a f).app (lps_asc c (f + (a.flat.length : Int))))
    have HN := Lib.hid hn
    have HL := Lib.hid hl'
    have HLA := Lib.hid hla
    have HLC := Lib.hid hlc
    clear iha ihc hn e1 hl hl' hf1 hfa hfc hnn hla hlc
    go_enter Try.func92, Try.ntmps92
    go_wp2_with fail
    refine (l2Split2_c _ a.flat c 5 0 w ht.2 H.out (by decide) (by decide) HL.out HP).mono ?_
    rintro e w1 ⟨va, vb, rfl, hb1, hva, hvb⟩
    obtain ⟨aa, ca, rfl, _⟩ := hva.out.shape
    obtain ⟨ab, cb, rfl, _⟩ := hvb.out.shape
    have hs1 := hb1.size
    obtain ⟨W, hW⟩ : ∃ W, W = four w1 := ⟨_, rfl⟩
    have hbW : Hid (Below w.heap.size w W) := by rw [hW]; exact hb1.trans ((fourBel w1).mono hs1)
    have hxa : Hid (Pairs S W (.slice aa a.flat.length ca) a.flat) := by rw [hW]; exact hva.out.stay (kpB (fourBel w1))
    have hxc : Hid (Pairs S W (.slice ab c.flat.length cb) c.flat) := by rw [hW]; exact hvb.out.stay (kpB (fourBel w1))
    unfold four at hW
    have HW2 := Lib.hid hW
    clear hW hva hvb
    go_wp2_with fail
    rw [← HW2.out]
    refine (IHA.out _ W hxa.out).mono ?_
    rintro e w2 ⟨y1, y2, rfl, hb2, hy1, hy2⟩
    have hws := hbW.out.size
    have ho1 := Lib.hid (ownBase hy1.out hws)
    have ho2 := Lib.hid (ownBase hy2.out hws)
    have HB2 := Lib.hid (hbW.out.trans (hb2.mono hws))
    have hxa2 := Lib.hid (hxa.out.stay (kpB hb2))
    have hxc2 := Lib.hid (hxc.out.stay (kpB hb2))
    obtain ⟨a1, c1, rfl, _⟩ := hy1.out.shape
    obtain ⟨a2, c2, rfl, _⟩ := hy2.out.shape
    clear hy1 hy2 hb2 hb1 hxa hxc hbW HW2 hws
    go_wp2_with fail
    refine (IHC.out _ w2 hxc2.out).mono ?_
    rintro e w3 ⟨z1, z2, rfl, hb3, hz1, hz2⟩
    have hs2 := HB2.out.size
    have HB3 := Lib.hid (HB2.out.trans (hb3.mono hs2))
    have hp1 := Lib.hid (ownStay ho1.out hb3)
    have hp2 := Lib.hid (ownStay ho2.out hb3)
    have hq1 := Lib.hid (ownBase hz1.out hs2)
    have hq2 := Lib.hid (ownBase hz2.out hs2)
    have hxa3 := Lib.hid (hxa2.out.stay (kpB hb3))
    have hxc3 := Lib.hid (hxc2.out.stay (kpB hb3))
    obtain ⟨a3, c3, rfl, _⟩ := hz1.out.shape
    obtain ⟨a4, c4, rfl, _⟩ := hz2.out.shape
    obtain ⟨b, off, rfl, k0, k1⟩ := (H.out.stay (kpB HB3.out)).at (k := n) (by rw [HN.out, List.length_append (bs := [(_, _)])]; exact Nat.lt_succ_self _)
    have k2 : Hid (w3.cell? ⟨b, off + n * 2, none⟩ = some (.int .i64 5)) := Lib.hid (by have hn := HN.out; subst hn; rw [flatOne] at k0; exact k0)
    clear k0 k1 HN HL hb3 hz1 hz2 ho1 ho2 HB2 hs2 hxa2 hxc2 IHA IHC
    have k3 := k2.out
    go_wp2_with fail
    refine (l12Join_c _ _ _ _ w3 (OwnI.rd hp1.out) (OwnI.rd hq1.out) UA.out.1 (by have h1 := UA.out.2.2; have h2 := HLA.out; have h3 := HLC.out; omega)).mono ?_
    rintro e w4 ⟨j1, rfl, hb4, hj1⟩
    obtain ⟨J1, hJ1⟩ : ∃ J, J = a.fps f ++ c.fps (f + (a.flat.length : Int)) := ⟨_, rfl⟩
    rw [← hJ1] at hj1
    replace hJ1 := Lib.hid hJ1
    have hg1 := Lib.hid (ownBase hj1.out HB3.out.size)
    obtain ⟨g1, i1, rfl, _⟩ := hj1.out.shape
    clear hj1
    replace hp2 := Lib.hid (ownStay hp2.out hb4)
    replace hq2 := Lib.hid (ownStay hq2.out hb4)
    have HB4 := Lib.hid (HB3.out.trans (hb4.mono HB3.out.size))
    go_wp2_with fail
    refine (l12Join_c _ _ _ _ w4 (OwnI.rd hp2.out) (OwnI.rd hq2.out) UB.out.1 (by have h1 := UB.out.2.2; have h2 := HLA.out; have h3 := HLC.out; omega)).mono ?_
    rintro e w5 ⟨j2, rfl, hb5, hj2⟩
    obtain ⟨J2, hJ2⟩ : ∃ J, J = a.lps f ++ c.lps (f + (a.flat.length : Int)) := ⟨_, rfl⟩
    rw [← hJ2] at hj2
    replace hJ2 := Lib.hid hJ2
    have hg2 := Lib.hid (ownBase hj2.out HB4.out.size)
    obtain ⟨g2, i2, rfl, _⟩ := hj2.out.shape
    clear hj2
    replace hg1 := Lib.hid (ownStay hg1.out hb5)
    have HB5 := Lib.hid (HB4.out.trans (hb5.mono HB4.out.size))
    go_wp2
    go_ret2
    exact ⟨_, _, rfl, HB5.out, Lib.hid (by show OwnI _ _ _ (a.fps f ++ c.fps (f + (a.flat.length : Int))); rw [← hJ1.out]; exact hg1.out), Lib.hid (by show OwnI _ _ _ (a.lps f ++ c.lps (f + (a.flat.length : Int))); rw [← hJ2.out]; exact hg2.out)⟩
  | both a c iha ihc =>
    intro ht hl v f w hf0 hf1 h
    have H := Lib.hid h
    obtain ⟨ad, cap, rfl, _⟩ := h.shape
    clear h
    replace H : Hid (Pairs S w (.slice ad (Re.both a c).flat.length cap) (a.flat ++ c.flat ++ [(6, 0)])) := H
    obtain ⟨n, hn⟩ : ∃ n, n = (a.flat ++ c.flat).length := ⟨_, rfl⟩
    have e1 : (Re.both a c).flat.length = n + 1 := by rw [hn]; show (a.flat ++ c.flat ++ [(6, 0)]).length = _; rw [List.length_append]; rfl
    replace H : Hid (Pairs S w (.slice ad (n + 1) cap) (a.flat ++ c.flat ++ [(6, 0)])) := by have h := H.out; rw [e1] at h; exact h
    rw [e1] at hl hf1 ⊢
    have hl' : (a.flat ++ c.flat).length ≤ 900 := by omega
    have hnn : n = a.flat.length + c.flat.length := by rw [hn, List.length_append]
    have hla : a.flat.length ≤ 900 := by omega
    have hlc : c.flat.length ≤ 900 := by omega
    have hf2 : f ≤ 999999 := by omega
    have hn9 : (n : Int) ≤ 900 := by omega
    have hfa : f ≤ 1000000 - (a.flat.length : Int) := by omega
    have hfc : f + (a.flat.length : Int) ≤ 1000000 - (c.flat.length : Int) := by omega
    have hfc0 : 0 ≤ f + (a.flat.length : Int) := by omega
    have hla9 : (a.flat.length : Int) ≤ 900 := by omega
    have HP := a.flat_pos
    have HPc := c.flat_pos
    have hnp : (0 : Int) < (a.flat.length : Int) := by omega
    have hnpc : (0 : Int) < (c.flat.length : Int) := by omega
    have IHA : Hid (∀ (v : Value) (w : World), Pairs S w v a.flat → Calls Try.prog 92 #[v, .int .i64 f] w (R2I w (a.fps f) (a.lps f))) := Lib.hid (fun v w h => iha ht.1 hla v f w hf0 hfa h)
    have IHC : Hid (∀ (v : Value) (w : World), Pairs S w v c.flat → Calls Try.prog 92 #[v, .int .i64 (f + (a.flat.length : Int))] w (R2I w (c.fps (f + (a.flat.length : Int))) (c.lps (f + (a.flat.length : Int))))) := Lib.hid (fun v w h => ihc ht.2 hlc v _ w hfc0 hfc h)
    have UA := Lib.hid ((fps_asc a f).app (fps_asc c (f + (a.flat.length : Int))))
    have UB := Lib.hid ((lps_asc a f).app (lps_asc c (f + (a.flat.length : Int))))
    have HN := Lib.hid hn
    have HL := Lib.hid hl'
    have HLA := Lib.hid hla
    have HLC := Lib.hid hlc
    clear iha ihc hn e1 hl hl' hf1 hfa hfc hnn hla hlc
    go_enter Try.func92, Try.ntmps92
    go_wp2_with fail
    refine (l2Split2_c _ a.flat c 6 0 w ht.2 H.out (by decide) (by decide) HL.out HP).mono ?_
    rintro e w1 ⟨va, vb, rfl, hb1, hva, hvb⟩
    obtain ⟨aa, ca, rfl, _⟩ := hva.out.shape
    obtain ⟨ab, cb, rfl, _⟩ := hvb.out.shape
    have hs1 := hb1.size
    obtain ⟨W, hW⟩ : ∃ W, W = four w1 := ⟨_, rfl⟩
    have hbW : Hid (Below w.heap.size w W) := by rw [hW]; exact hb1.trans ((fourBel w1).mono hs1)
    have hxa : Hid (Pairs S W (.slice aa a.flat.length ca) a.flat) := by rw [hW]; exact hva.out.stay (kpB (fourBel w1))
    have hxc : Hid (Pairs S W (.slice ab c.flat.length cb) c.flat) := by rw [hW]; exact hvb.out.stay (kpB (fourBel w1))
    unfold four at hW
    have HW2 := Lib.hid hW
    clear hW hva hvb
    go_wp2_with fail
    rw [← HW2.out]
    refine (IHA.out _ W hxa.out).mono ?_
    rintro e w2 ⟨y1, y2, rfl, hb2, hy1, hy2⟩
    have hws := hbW.out.size
    have ho1 := Lib.hid (ownBase hy1.out hws)
    have ho2 := Lib.hid (ownBase hy2.out hws)
    have HB2 := Lib.hid (hbW.out.trans (hb2.mono hws))
    have hxa2 := Lib.hid (hxa.out.stay (kpB hb2))
    have hxc2 := Lib.hid (hxc.out.stay (kpB hb2))
    obtain ⟨a1, c1, rfl, _⟩ := hy1.out.shape
    obtain ⟨a2, c2, rfl, _⟩ := hy2.out.shape
    clear hy1 hy2 hb2 hb1 hxa hxc hbW HW2 hws
    go_wp2_with fail
    refine (IHC.out _ w2 hxc2.out).mono ?_
    rintro e w3 ⟨z1, z2, rfl, hb3, hz1, hz2⟩
    have hs2 := HB2.out.size
    have HB3 := Lib.hid (HB2.out.trans (hb3.mono hs2))
    have hp1 := Lib.hid (ownStay ho1.out hb3)
    have hp2 := Lib.hid (ownStay ho2.out hb3)
    have hq1 := Lib.hid (ownBase hz1.out hs2)
    have hq2 := Lib.hid (ownBase hz2.out hs2)
    have hxa3 := Lib.hid (hxa2.out.stay (kpB hb3))
    have hxc3 := Lib.hid (hxc2.out.stay (kpB hb3))
    obtain ⟨a3, c3, rfl, _⟩ := hz1.out.shape
    obtain ⟨a4, c4, rfl, _⟩ := hz2.out.shape
    obtain ⟨b, off, rfl, k0, k1⟩ := (H.out.stay (kpB HB3.out)).at (k := n) (by rw [HN.out, List.length_append (bs := [(_, _)])]; exact Nat.lt_succ_self _)
    have k2 : Hid (w3.cell? ⟨b, off + n * 2, none⟩ = some (.int .i64 6)) := Lib.hid (by have hn := HN.out; subst hn; rw [flatOne] at k0; exact k0)
    clear k0 k1 HN HL hb3 hz1 hz2 ho1 ho2 HB2 hs2 hxa2 hxc2 IHA IHC
    have k3 := k2.out
    go_wp2
    go_ret2
    exact ⟨_, _, rfl, HB3.out, hp1, hp2⟩
  | not a iha =>
    intro ht hl v f w hf0 hf1 h
    have H := Lib.hid h
    obtain ⟨ad, cap, rfl, _⟩ := h.shape
    clear h
    replace H : Hid (Pairs S w (.slice ad (Re.not a).flat.length cap) (a.flat ++ [(7, 0)])) := H
    obtain ⟨n, hn⟩ : ∃ n, n = a.flat.length := ⟨_, rfl⟩
    have e1 : (Re.not a).flat.length = n + 1 := by rw [hn]; show (a.flat ++ [(7, 0)]).length = _; rw [List.length_append]; rfl
    replace H : Hid (Pairs S w (.slice ad (n + 1) cap) (a.flat ++ [(7, 0)])) := by have h := H.out; rw [e1] at h; exact h
    rw [e1] at hl hf1 ⊢
    have hl' : a.flat.length ≤ 900 := by omega
    have hf2 : f ≤ 999999 := by omega
    have hn9 : (n : Int) ≤ 900 := by omega
    have hfa : f ≤ 1000000 - (a.flat.length : Int) := by omega
    have HP := a.flat_pos
    have hnp : (0 : Int) < (a.flat.length : Int) := by omega
    have IHA : Hid (∀ (v : Value) (w : World), Pairs S w v a.flat → Calls Try.prog 92 #[v, .int .i64 f] w (R2I w (a.fps f) (a.lps f))) := Lib.hid (fun v w h => iha ht hl' v f w hf0 hfa h)
    have HN := Lib.hid hn
    have HL := Lib.hid hl'
    clear iha hn e1 hl hl' hf1 hfa
    go_enter Try.func92, Try.ntmps92
    go_wp2_with fail
    refine (l2Split1_c _ a.flat 7 0 w H.out (by decide) (by decide) HL.out HP).mono ?_
    rintro e w1 ⟨va, vb, rfl, hb1, hva, hvb⟩
    obtain ⟨aa, ca, rfl, _⟩ := hva.out.shape
    obtain ⟨ab, cb, rfl, _⟩ := hvb.out.shape
    have hs1 := hb1.size
    obtain ⟨W, hW⟩ : ∃ W, W = four w1 := ⟨_, rfl⟩
    have hbW : Hid (Below w.heap.size w W) := by rw [hW]; exact hb1.trans ((fourBel w1).mono hs1)
    have hxa : Hid (Pairs S W (.slice aa a.flat.length ca) a.flat) := by rw [hW]; exact hva.out.stay (kpB (fourBel w1))
    have HW := Lib.hid hW
    unfold four at hW
    have HW2 := Lib.hid hW
    clear hW hva hvb
    go_wp2_with fail
    rw [← HW2.out]
    refine (IHA.out _ W hxa.out).mono ?_
    rintro e w2 ⟨y1, y2, rfl, hb2, hy1, hy2⟩
    have hws := hbW.out.size
    have ho1 := Lib.hid (ownBase hy1.out hws)
    have ho2 := Lib.hid (ownBase hy2.out hws)
    have HB2 := Lib.hid (hbW.out.trans (hb2.mono hws))
    obtain ⟨a1, c1, rfl, _⟩ := hy1.out.shape
    obtain ⟨a2, c2, rfl, _⟩ := hy2.out.shape
    obtain ⟨b, off, rfl, k0, k1⟩ := (H.out.stay (kpB HB2.out)).at (k := n) (by rw [HN.out, List.length_append]; exact Nat.lt_succ_self _)
    have k2 : Hid (w2.cell? ⟨b, off + n * 2, none⟩ = some (.int .i64 7)) := Lib.hid (by have hn := HN.out; subst hn; rw [flatOne] at k0; exact k0)
    clear k0 k1 hy1 hy2 hb2 hb1 HN HL
    have k3 := k2.out
    go_wp2
    go_ret2
    exact ⟨_, _, rfl, HB2.out, ho1, ho2⟩
  | star a iha =>
    intro ht hl v f w hf0 hf1 h
    have H := Lib.hid h
    obtain ⟨ad, cap, rfl, _⟩ := h.shape
    clear h
    replace H : Hid (Pairs S w (.slice ad (Re.star a).flat.length cap) (a.flat ++ [(8, 0)])) := H
    obtain ⟨n, hn⟩ : ∃ n, n = a.flat.length := ⟨_, rfl⟩
    have e1 : (Re.star a).flat.length = n + 1 := by rw [hn]; show (a.flat ++ [(8, 0)]).length = _; rw [List.length_append]; rfl
    replace H : Hid (Pairs S w (.slice ad (n + 1) cap) (a.flat ++ [(8, 0)])) := by have h := H.out; rw [e1] at h; exact h
    rw [e1] at hl hf1 ⊢
    have hl' : a.flat.length ≤ 900 := by omega
    have hf2 : f ≤ 999999 := by omega
    have hn9 : (n : Int) ≤ 900 := by omega
    have hfa : f ≤ 1000000 - (a.flat.length : Int) := by omega
    have HP := a.flat_pos
    have hnp : (0 : Int) < (a.flat.length : Int) := by omega
    have IHA : Hid (∀ (v : Value) (w : World), Pairs S w v a.flat → Calls Try.prog 92 #[v, .int .i64 f] w (R2I w (a.fps f) (a.lps f))) := Lib.hid (fun v w h => iha ht hl' v f w hf0 hfa h)
    have HN := Lib.hid hn
    have HL := Lib.hid hl'
    clear iha hn e1 hl hl' hf1 hfa
    go_enter Try.func92, Try.ntmps92
    go_wp2_with fail
    refine (l2Split1_c _ a.flat 8 0 w H.out (by decide) (by decide) HL.out HP).mono ?_
    rintro e w1 ⟨va, vb, rfl, hb1, hva, hvb⟩
    obtain ⟨aa, ca, rfl, _⟩ := hva.out.shape
    obtain ⟨ab, cb, rfl, _⟩ := hvb.out.shape
    have hs1 := hb1.size
    obtain ⟨W, hW⟩ : ∃ W, W = four w1 := ⟨_, rfl⟩
    have hbW : Hid (Below w.heap.size w W) := by rw [hW]; exact hb1.trans ((fourBel w1).mono hs1)
    have hxa : Hid (Pairs S W (.slice aa a.flat.length ca) a.flat) := by rw [hW]; exact hva.out.stay (kpB (fourBel w1))
    have HW := Lib.hid hW
    unfold four at hW
    have HW2 := Lib.hid hW
    clear hW hva hvb
    go_wp2_with fail
    rw [← HW2.out]
    refine (IHA.out _ W hxa.out).mono ?_
    rintro e w2 ⟨y1, y2, rfl, hb2, hy1, hy2⟩
    have hws := hbW.out.size
    have ho1 := Lib.hid (ownBase hy1.out hws)
    have ho2 := Lib.hid (ownBase hy2.out hws)
    have HB2 := Lib.hid (hbW.out.trans (hb2.mono hws))
    obtain ⟨a1, c1, rfl, _⟩ := hy1.out.shape
    obtain ⟨a2, c2, rfl, _⟩ := hy2.out.shape
    obtain ⟨b, off, rfl, k0, k1⟩ := (H.out.stay (kpB HB2.out)).at (k := n) (by rw [HN.out, List.length_append]; exact Nat.lt_succ_self _)
    have k2 : Hid (w2.cell? ⟨b, off + n * 2, none⟩ = some (.int .i64 8)) := Lib.hid (by have hn := HN.out; subst hn; rw [flatOne] at k0; exact k0)
    clear k0 k1 hy1 hy2 hb2 hb1 HN HL
    have k3 := k2.out
    go_wp2
    go_ret2
    exact ⟨_, _, rfl, HB2.out, ho1, ho2⟩
end Go.Proofs.Ytnjddneelkdmoaa
