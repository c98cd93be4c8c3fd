/- Expressions compiled: one operand.
Expressions compiled: two operands.
Expressions compiled: the reference's CompileExpr, as far as that it answers an automaton. -/
import Derived.Test.YtcbhfopabgiiiaaDcm
set_option linter.unusedSimpArgs false
set_option linter.unusedVariables false
set_option linter.unusedSectionVars false
namespace Go.Proofs.Ytcbhfopabgiiiaa
open Go.RowKit
set_option maxRecDepth 100000
variable {S T : Nat → Prop}
theorem Pre.set {w W : World} (h : Pre w W) {g o : Nat} (hg : w.heap.size + 5 ≤ g) (v : Value) : Pre w (W.setCell ⟨g, o, none⟩ v) :=
  ⟨h.bel.setCell (p := ⟨g, o, none⟩) (show w.heap.size ≤ g by omega) _, blkSet h.k2 (by omega), blkSet h.ka (by omega), blkSet h.kb (by omega), blkSet h.kc (by omega), blkSet h.kd (by omega)⟩
set_option maxHeartbeats 6000000 in
theorem l11Dfa1_c (v : Value) (f : List (Int × Int)) (x y : Int) (w : World) (h : Pairs S w v (f ++ [(x, y)])) (hp : pOk x y) (h0 : pNeeds x = 1) (hl : f.length ≤ 900) (hf : 0 < f.length)
    (IH : ∀ (v : Value) (w : World), Pairs S w v f → Calls Try.prog 161 #[v] w (RDw w)) : Calls Try.prog 161 #[v] w (RDw w) := by
  have hH := Lib.hid h
  obtain ⟨a, cap, rfl, _⟩ := h.shape
  obtain ⟨b, off, rfl, c0, c1⟩ := h.at (k := f.length) (by simp)
  simp at c0 c1
  clear h
  obtain ⟨W5, hW5⟩ : ∃ W5, W5 = ((((w.alloc (.cells #[.slice none 0 0, .slice none 0 0] 26)).alloc (.cells #[.int .i64 0, .int .i64 0, .int .i64 0] 3)).alloc (.cells #[.slice (some ⟨w.heap.size + 1, 0, none⟩) 3 3] 39)).alloc (.cells #[.bool false] 4)).alloc (.cells #[.slice (some ⟨w.heap.size + 1 + 1, 0, none⟩) 1 1, .slice (some ⟨w.heap.size + 1 + 1 + 1, 0, none⟩) 1 1] 26) := ⟨_, rfl⟩
  have HP5 := Lib.hid (pre5 hW5)
  have hz5 : Hid (W5.heap.size = w.heap.size + 5) := by rw [hW5]; simp [Hid]
  replace c0 := kpB (S := fun _ => True) HP5.out.bel _ _ trivial c0
  replace c1 := kpB (S := fun _ => True) HP5.out.bel _ _ trivial c1
  have HW5 := Lib.hid hW5; clear hW5
  rw [HW5.out] at c0 c1
  have HP := Lib.hid hp; clear hp
  have H0 := Lib.hid h0; clear h0
  have Hl := Lib.hid hl; clear hl
  have Hf := Lib.hid hf; clear hf
  obtain ⟨n, hn⟩ : ∃ n, n = f.length := ⟨_, rfl⟩
  have hn1 : 0 < n := by have := Hf.out; omega
  have hn9 : n ≤ 900 := by have := Hl.out; omega
  rw [← hn] at c0 c1
  rw [List.length_append, List.length_singleton, ← hn] at hH
  rw [List.length_append, List.length_singleton, ← hn]
  have Hn := Lib.hid hn; clear hn
  have hnI : (0 : Int) < (n : Int) := by omega
  go_enter Try.func161, Try.ntmps161
  go_wp2_with fail
  rw [← HW5.out]
  rw [show w.heap.size + 1 + 1 + 1 + 1 + 1 = W5.heap.size by rw [hz5.out]]
  obtain ⟨W, hW⟩ : ∃ W, W = W5.alloc (.cells #[.int .i64 x, .int .i64 y] 62) := ⟨_, rfl⟩
  have hb6 : Hid (Below W5.heap.size W5 W) := by rw [hW]; exact (Below.refl _ _).alloc (Nat.le_refl _) _
  have K6 : Hid (W.heap[W5.heap.size]? = some (.cells #[.int .i64 x, .int .i64 y] 62 (0, 0))) := by rw [hW]; exact blkNew _ _ rfl
  rw [← hW]
  clear c0 c1 hW HW5
  refine (l2Split1_c _ f x y W (hH.out.stay (kpB (HP5.out.stay hb6.out).bel)) HP.out H0.out Hl.out Hf.out).mono ?_
  rintro e w1 ⟨va, vb, rfl, hb1, hva, hvb⟩
  have hva' := hva.out
  obtain ⟨aa, ca, rfl, _⟩ := hva.out.shape
  obtain ⟨ab, cb, rfl, _⟩ := hvb.out.shape
  clear hva hvb
  have HVA := Lib.hid hva'; clear hva'
  rw [← Hn.out] at HVA ⊢
  have HQ := Lib.hid ((HP5.out.stay hb6.out).stay hb1)
  have K61 := Lib.hid (blkBel hb1 K6.out)
  obtain ⟨d0, d1, _, _⟩ := blk2 HQ.out.kd
  obtain ⟨W8, hW8⟩ : ∃ x, x = (w1.alloc (.cells #[.slice (some ⟨w.heap.size + 1 + 1, 0, none⟩) 1 1, .slice (some ⟨w.heap.size + 1 + 1 + 1, 0, none⟩) 1 1] 26)).alloc (.cells #[.slice (some ⟨w.heap.size + 1 + 1, 0, none⟩) 1 1, .slice (some ⟨w.heap.size + 1 + 1 + 1, 0, none⟩) 1 1] 26) := ⟨_, rfl⟩
  have hb8 : Hid (Below w1.heap.size w1 W8) := by rw [hW8]; exact ((Below.refl _ _).alloc (Nat.le_refl _) _).alloc (by simp) _
  have d0' : ∀ o : Obj, (w1.alloc o).cell? ⟨w.heap.size + 1 + 1 + 1 + 1, 0, none⟩ = _ := fun o => kpAlloc (S := fun _ => True) _ _ trivial d0
  have d1' : ∀ o : Obj, (w1.alloc o).cell? ⟨w.heap.size + 1 + 1 + 1 + 1, 1, none⟩ = _ := fun o => kpAlloc (S := fun _ => True) _ _ trivial d1
  have K8 : Hid (W8.heap[w1.heap.size]? = some (.cells #[.slice (some ⟨w.heap.size + 1 + 1, 0, none⟩) 1 1, .slice (some ⟨w.heap.size + 1 + 1 + 1, 0, none⟩) 1 1] 26 (0, 0))) := by rw [hW8]; exact blkOld (blkNew _ _ rfl)
  have hz8 : Hid (W8.heap.size = w1.heap.size + 2) := by rw [hW8]; simp [Hid]
  have HW8 := Lib.hid hW8; clear hW8
  have hw1 : Hid (w.heap.size + 6 ≤ w1.heap.size) := Lib.hid (by have := (Array.getElem?_eq_some_iff.1 K61.out).1; have := hz5.out; omega)
  go_wp2_with fail
  rw [← HW8.out]
  clear HW8 d0 d1 d0' d1'
  refine (IH _ W8 (HVA.out.stay (kpB hb8.out))).mono ?_
  rintro e w9 ⟨D, v1, v2, bb, rfl, hb9, hD, hd⟩
  obtain ⟨aN, cN, aE, cE, rfl, rfl, hnn, hmm⟩ := hd.out.shapes
  have HQ9 := Lib.hid ((HQ.out.stay hb8.out).stay hb9)
  have K69 := Lib.hid (blkBel hb9 (blkBel hb8.out K61.out))
  have K89 := Lib.hid (blkBel hb9 K8.out)
  obtain ⟨e0, e1, g0, g1⟩ := blk2 K89.out
  obtain ⟨WA, hWA⟩ : ∃ x, x = (w9.setCell ⟨w1.heap.size, 0, none⟩ (.slice aN D.1.length cN)).setCell ⟨w1.heap.size, 1, none⟩ (.slice aE D.2.length cE) := ⟨_, rfl⟩
  have hQA : Hid (Pre w WA) := by have := hw1.out; rw [hWA]; exact (HQ9.out.set (by omega) _).set (by omega) _
  obtain ⟨q0, q1, r0, r1⟩ := blk2 hQA.out.k2
  have hzA : Hid (WA.heap.size = w9.heap.size) := by rw [hWA]; simp [Hid, World.setCell]
  have K8A : Hid (WA.heap[w1.heap.size]? = some (.cells #[.slice aN D.1.length cN, .slice aE D.2.length cE] 26 (0, 0))) := by rw [hWA]; exact heap_set (heap_set K89.out 0 _) 1 _
  have hz89 := hb9.size
  have hdA : Hid (DfaR (fun b => w.heap.size ≤ b ∧ b ≠ w1.heap.size) WA (.slice aN D.1.length cN) (.slice aE D.2.length cE) D) := by
    have hk : Kp (· ≠ w1.heap.size) w9 WA := by rw [hWA]; exact kpSet.trans kpSet
    have := hw1.out
    have h8 := hz8.out
    exact Lib.hid ((hd.out.mono (T := fun b => w.heap.size ≤ b ∧ b ≠ w1.heap.size) (fun b h => ⟨by omega, by omega⟩)).stay (hk.mono fun b h => h.2))
  have K6A : Hid (WA.heap[W5.heap.size]? = some (.cells #[.int .i64 x, .int .i64 y] 62 (0, 0))) := by
    have := (Array.getElem?_eq_some_iff.1 K61.out).1
    have h5 := (Array.getElem?_eq_some_iff.1 K6.out).1
    have hne : W5.heap.size ≠ w1.heap.size := by have := hb1.size; omega
    rw [hWA]; exact blkSet (blkSet K69.out hne) hne
  have HWA := Lib.hid hWA; clear hWA
  obtain ⟨t0, t1, _, _⟩ := blk2 hQA.out.kd
  obtain ⟨u0, u1, _, _⟩ := blk2 K8A.out
  obtain ⟨p0, p1, _, _⟩ := blk2 K6A.out
  rcases hD.out with ⟨rfl, hok⟩ | ⟨rfl, hno⟩
  · obtain ⟨WB, hWB⟩ : ∃ x, x = WA.alloc (.cells #[.slice (some ⟨w.heap.size + 1 + 1, 0, none⟩) 1 1, .slice (some ⟨w.heap.size + 1 + 1 + 1, 0, none⟩) 1 1] 26) := ⟨_, rfl⟩
    have p0A : WB.cell? ⟨W5.heap.size, 0, none⟩ = some (.int .i64 x) := by rw [hWB]; exact kpAlloc (S := fun _ => True) _ _ trivial p0
    have u0A : WB.cell? ⟨w1.heap.size, 0, none⟩ = some (.slice aN D.1.length cN) := by rw [hWB]; exact kpAlloc (S := fun _ => True) _ _ trivial u0
    have u1A : WB.cell? ⟨w1.heap.size, 1, none⟩ = some (.slice aE D.2.length cE) := by rw [hWB]; exact kpAlloc (S := fun _ => True) _ _ trivial u1
    have hw9 : Hid (w.heap.size + 5 ≤ w9.heap.size) := Lib.hid (by have := hw1.out; have := hz8.out; omega)
    have hdB : Hid (DfaR (fun b => w.heap.size ≤ b ∧ b ≠ w1.heap.size) WB (.slice aN D.1.length cN) (.slice aE D.2.length cE) D) := Lib.hid (by
      rw [hWB]
      exact (hdA.out.stay kpAlloc))
    have HQB := Lib.hid (hQA.out.stay (W' := WB) (by rw [hWB]; exact (Below.refl _ _).alloc (Nat.le_refl _) _))
    have K12 : Hid (WB.heap[w9.heap.size]? = some (.cells #[.slice (some ⟨w.heap.size + 1 + 1, 0, none⟩) 1 1, .slice (some ⟨w.heap.size + 1 + 1 + 1, 0, none⟩) 1 1] 26 (0, 0))) := by rw [hWB]; exact blkNew _ _ hzA.out.symm
    have hzB : Hid (WB.heap.size = w9.heap.size + 1) := by rw [hWB]; simp [Hid, hzA.out]
    have HWB := Lib.hid hWB
    rw [HWA.out] at t0 t1 
    rw [hWB, HWA.out] at p0A u0A u1A
    have h40 := hok.1.2
    have Hok := Lib.hid hok; clear hok
    rcases pNeeds_cases x y HP.out with ⟨rfl, rfl⟩ | ⟨rfl, rfl⟩ | ⟨rfl, hy0, hy2⟩ | ⟨rfl, rfl⟩ | ⟨rfl, rfl⟩ | ⟨rfl, rfl⟩ | ⟨rfl, rfl⟩ | ⟨rfl, rfl⟩
    case inr.inr.inr.inr.inr.inr.inl =>
      go_wp2_with fail
      rw [← HWA.out]
      clear t0 t1 p0A u0A u1A p0 p1 u0 u1 q0 q1 r0 r1 e0 e1 g0 g1
      obtain ⟨G, hG⟩ : ∃ G, G = w9.heap.size := ⟨_, rfl⟩
      rw [← hG]
      have hGA : Hid (WA.heap.size = G) := by rw [hG]; exact hzA
      have hw9' : Hid (w.heap.size + 5 ≤ G) := by rw [hG]; exact hw9
      have h1G : w1.heap.size < G := by rw [hG]; have := hz8.out; omega
      obtain ⟨m, hm⟩ : ∃ m, m = D.2.length := ⟨_, rfl⟩
      have hm40 : m ≤ 40 := by rw [hm, Hok.out.2.1]; exact h40
      have hmn : Hid (m = D.1.length) := Lib.hid (by rw [hm, Hok.out.2.1])
      rw [← hm] at K8A hdA ⊢
      have Hm := Lib.hid hm
      clear hm hG
      obtain ⟨WC, hWC⟩ : ∃ x, x = WA.alloc (.cells #[.slice aN D.1.length cN, .slice none 0 0] 26) := ⟨_, rfl⟩
      have hbC : Hid (Below G WA WC) := by rw [hWC]; exact (Below.refl _ _).alloc (by rw [hGA.out]; exact Nat.le_refl _) _
      have kC : Hid (WC.heap[G]? = some (.cells #[.slice aN D.1.length cN, .slice none 0 0] 26 (0, 0))) := by rw [hWC]; exact blkNew _ _ hGA.out.symm
      have hzC : G + 1 ≤ WC.heap.size := by rw [hWC]; simp [hGA.out]
      rw [← hWC]
      clear hWC
      go_loopw [14] (fun i wr => ∃ (k : Nat) (ve : Value) (es : List Bool), k ≤ m ∧ i = .int .i64 k ∧ Hid (es.length = k) ∧ Hid (Below G WA wr) ∧ Hid (wr.heap[G]? = some (.cells #[.slice aN D.1.length cN, ve] 26 (0, 0))) ∧ Hid (OwnB wr (G + 1) ve es) ∧ G + 1 ≤ wr.heap.size) (fun i _ => m - (intOf i).toNat)
      case atStart => exact ⟨0, _, [], by omega, rfl, rfl, hbC, kC, ⟨rfl, .inl ⟨rfl, rfl⟩⟩, hzC⟩
      case round =>
        clear hbC kC hzC
        obtain ⟨k, ve, es, hk, rfl, hel, hb, hkG, hE, hz⟩ := hrel
        have hbW : Hid (Below WA.heap.size WA wr) := Lib.hid (by rw [hGA.out]; exact hb.out)
        obtain ⟨u0, u1, _, _⟩ := blk2 (blkBel hbW.out K8A.out)
        by_cases hlt : k < m
        · have hR : Hid (Bools _ wr (.slice aE m cE) D.2) := Lib.hid ((hdA.out.stay (kpB hbW.out)).2)
          obtain ⟨bx, ox, ex, hcx⟩ := hR.out.at (k := k) (by rw [← Hm.out]; exact hlt)
          cases ex
          clear hR
          generalize D.2[k]'(by rw [← Hm.out]; exact hlt) = y at *
          have hkI : (k : Int) < (m : Int) := by omega
          obtain ⟨av, cv, hv1, _⟩ := hE.out.shape
          rw [hel.out] at hv1
          subst hv1
          obtain ⟨e0, e1, g0, g1⟩ := blk2 hkG.out
          have HED := Lib.hid (hE.out.stay ((Below.refl _ _).drew))
          have HA : Hid (∀ p v, wr.cell? p = some v → (wr.drew.alloc (.cells #[.bool (!y)] 4)).cell? p = some v) := fun p v h => kpAlloc (S := fun _ => True) _ _ trivial h
          have d3D : wr.drew.cell? ⟨w1.heap.size, 1, none⟩ = _ := u1
          have helD : wr.drew.cell? ⟨bx, ox + k, none⟩ = _ := hcx
          have e1D : wr.drew.cell? ⟨G, 1, none⟩ = _ := e1
          have e1A := HA.out _ _ e1
          have e1B : (wr.alloc (.cells #[.bool (!y)] 4)).drew.cell? ⟨G, 1, none⟩ = _ := e1A
          go_wp2_with fail
          go_region_law
            (refine stepAppAt elBool (by decide) rfl (.tmp 115) (.tmp 122) rfl (G + 1) _ _ _ [.bool (!y)] _ wr.heap.size rfl rfl (HED.out.alloc _) (by exact blkNew _ _ rfl) rfl (by simp [Value.oneCell']) (by have := hel.out; omega) (by simp; omega) ?_
             intro g7 cap7 w7 ho7 hg7 hat7
             have hg8 : wr.drew.grownBy w7 _ := grownTrans (grownBel ((Below.refl _ _).alloc (Nat.le_refl _) _)) hg7
             have ho8 : Hid (OwnB w7 (G + 1) (.slice (some ⟨g7, 0, none⟩) (es.length + 1) cap7) (es ++ [!y])) := by unfold OwnB; rw [List.length_append, List.map_append]; exact ho7.out
             have hk7 := Lib.hid (blkGrow hg8 hkG.out (fun e => ownNe HED.out hkG.out (by decide) e.symm))
             have hb7 := Lib.hid ((hb.out.drew.grown hg8 (by show G ≤ wr.heap.size; omega) (fun b hb' => by have := (World.ownsRow.lt HED.out b hb').1; omega)).setCell (p := ⟨G, 1, none⟩) (Nat.le_refl _) (.slice (some ⟨g7, 0, none⟩) (es.length + 1) cap7))
             have hk8 := Lib.hid (heap_set hk7.out 1 (.slice (some ⟨g7, 0, none⟩) (es.length + 1) cap7))
             have hE8 := Lib.hid (ownSetNe (b := G) (o := 1) ho8.out (ownNe ho8.out hk7.out (by decide)) (.slice (some ⟨g7, 0, none⟩) (es.length + 1) cap7))
             have hz8 : G + 1 ≤ (w7.setCell ⟨G, 1, none⟩ (.slice (some ⟨g7, 0, none⟩) (es.length + 1) cap7)).heap.size := (by have := hg8.size; simp [World.setCell] at this ⊢; omega)
             obtain ⟨c0', c1', f0', f1'⟩ := blk2 hk7.out
             clear hg7 hat7 ho7 ho8)
          all_goals (
            have hel2 : Hid ((es ++ [!y]).length = k + 1) := Lib.hid (by rw [List.length_append, hel.out]; rfl)
            clear d3D helD e1D e1A e1B hg8 c0' c1' f0' f1' u0 u1 e0 e1 g0 g1 hcx hbW hk7 HED hb hkG hE hz hel
            go_wp2
            go_roundw
            case rel => exact ⟨k + 1, _, _, by omega, by go_num, hel2, hb7, hk8, hE8, hz8⟩
            case measure => simp [intOf]; omega)
        · obtain rfl : k = m := by omega
          obtain ⟨av, cv, hv1, _⟩ := hE.out.shape
          rw [hel.out] at hv1
          subst hv1
          obtain ⟨e0, e1, g0, g1⟩ := blk2 hkG.out
          have hQX := Lib.hid (hQA.out.stay hbW.out)
          have hdX : Hid (DfaR (w.heap.size ≤ ·) wr (.slice aN D.1.length cN) (.slice av k cv) (D.1, es)) := Lib.hid ⟨((hdA.out.stay (kpB hbW.out)).mono fun b h => h.1).1, by
            have := (OwnB.rd hE.out).mono (T := fun b => w.heap.size ≤ b) (fun b h => by have := hw9'.out; omega)
            exact this⟩
          have hokX : okD (D.1, es) := ⟨Hok.out.1, by show es.length = _; rw [hel.out]; exact hmn.out, Hok.out.2.2⟩
          have HokX := Lib.hid hokX; clear hokX
          have hkI : ¬ (k : Int) < (k : Int) := by omega
          obtain ⟨X, hX⟩ : ∃ X, X = (D.1, es) := ⟨_, rfl⟩
          rw [← hX] at hdX HokX
          clear hX hel
          go_wp2_with fail
          refine (l10Small_c _ _ X wr hdX.out HokX.out).mono ?_
          rintro e w5 ⟨v1, v2, rfl, hb5, hd5⟩
          obtain ⟨aN, cN, aE, cE, rfl, rfl, _, _⟩ := hd5.out.rd.shapes
          have hz5' := hb5.size
          have K5 := Lib.hid (blkBel hb5 hQX.out.k2)
          have hbS := Lib.hid hQX.out.bel
          have hbs := hbS.out.size
          have hbi : w.heap.size < (wr).heap.size := (Array.getElem?_eq_some_iff.1 hQX.out.k2).1
          obtain ⟨f0, f1, f2, f3⟩ := blk2 K5.out
          go_wp2
          refine bodyPost_ret (v := .tuple #[.agg #[.slice aN (canon (lgD X)).1.length cN, .slice aE (canon (lgD X)).2.length cE], .bool true]) (by simp [results, Try.results161, go_sem, f0, f1, f2, f3]) rfl ?_
          exact RDw.out (B := (wr).heap.size) (g := w.heap.size) (hbS.out.trans (hb5.mono hbs)) (Nat.le_refl _) hbi (Lib.hid (.inl ⟨rfl, cnOk HokX.out⟩)) (hd5.out.rd.mono fun b h => h.1)
    case inr.inr.inr.inr.inr.inr.inr =>
      go_wp2_with fail
      rw [← HWA.out, ← HWB.out]
      refine (l11Star_c _ _ D WB hdB.out Hok.out).mono ?_
      rintro e w10 ⟨D2, z1, z2, b2, rfl, hb10, hD2, hd2⟩
      obtain ⟨aN2, cN2, aE2, cE2, rfl, rfl, hnn2, hmm2⟩ := hd2.out.shapes
      have HQ10 := Lib.hid (HQB.out.stay hb10)
      have K12b := Lib.hid (blkBel hb10 K12.out)
      obtain ⟨y0, y1, g2, g3⟩ := blk2 K12b.out
      rcases hD2.out with ⟨rfl, hok2⟩ | ⟨rfl, hno2⟩
      · have Hok2 := Lib.hid hok2; clear hok2
        go_wp2_with fail
        obtain ⟨WX, hWX⟩ : ∃ x, x = (w10.setCell ⟨w9.heap.size, 0, none⟩ (.slice aN2 D2.1.length cN2)).setCell ⟨w9.heap.size, 1, none⟩ (.slice aE2 D2.2.length cE2) := ⟨_, rfl⟩
        have hQX : Hid (Pre w WX) := by rw [hWX]; exact (HQ10.out.set hw9.out _).set hw9.out _
        have hdX : Hid (DfaR (w.heap.size ≤ ·) WX (.slice aN2 D2.1.length cN2) (.slice aE2 D2.2.length cE2) D2) := by
          have hk : Kp (· ≠ w9.heap.size) w10 WX := by rw [hWX]; exact kpSet.trans kpSet
          have h9 := hw9.out
          have hz := hzB.out
          exact Lib.hid (((hd2.out.mono (T := fun b => w.heap.size ≤ b ∧ b ≠ w9.heap.size) (fun b h => ⟨by omega, by omega⟩)).stay (hk.mono fun b h => h.2)).mono fun b h => h.1)
        rw [← hWX]
        clear hWX
        refine (l10Small_c _ _ D2 WX hdX.out Hok2.out).mono ?_
        rintro e w5 ⟨v1, v2, rfl, hb5, hd5⟩
        obtain ⟨aN, cN, aE, cE, rfl, rfl, _, _⟩ := hd5.out.rd.shapes
        have hz5' := hb5.size
        have K5 := Lib.hid (blkBel hb5 hQX.out.k2)
        have hbS := Lib.hid hQX.out.bel
        have hbs := hbS.out.size
        have hbi : w.heap.size < (WX).heap.size := (Array.getElem?_eq_some_iff.1 hQX.out.k2).1
        obtain ⟨f0, f1, f2, f3⟩ := blk2 K5.out
        go_wp2
        refine bodyPost_ret (v := .tuple #[.agg #[.slice aN (canon (lgD D2)).1.length cN, .slice aE (canon (lgD D2)).2.length cE], .bool true]) (by simp [results, Try.results161, go_sem, f0, f1, f2, f3]) rfl ?_
        exact RDw.out (B := (WX).heap.size) (g := w.heap.size) (hbS.out.trans (hb5.mono hbs)) (Nat.le_refl _) hbi (Lib.hid (.inl ⟨rfl, cnOk Hok2.out⟩)) (hd5.out.rd.mono fun b h => h.1)
      · have Hno2 := Lib.hid hno2; clear hno2
        have Hr := Lib.hid (blk2 HQ10.out.k2)
        have j0 := Hr.out.1
        have j1 := Hr.out.2.1
        have j2 := Hr.out.2.2.1
        have j3 := Hr.out.2.2.2
        have hne9 : w.heap.size ≠ w9.heap.size := by have := hw9.out; omega
        go_wp2
        have o0 := j0
        refine bodyPost_ret (v := .tuple #[.agg #[.slice none 0 0, .slice none 0 0], .bool false]) (by simp [results, Try.results161, go_sem, j0, j1]) rfl (RDw.no ?_)
        exact ((((HQ10.out.set hw9.out _).set hw9.out _).bel).setCell (Nat.le_refl _) _).setCell (Nat.le_refl _) _
    all_goals (exfalso; have := H0.out; simp [pNeeds] at this)
  · have Hno := Lib.hid hno; clear hno
    rw [HWA.out] at q0 q1 r0 r1
    go_wp2
    refine bodyPost_ret (v := .tuple #[.agg #[.slice none 0 0, .slice none 0 0], .bool false]) (by simp [results, Try.results161, go_sem, q0, q1]) rfl (RDw.no ?_)
    rw [← HWA.out]
    exact (hQA.out.bel.setCell (Nat.le_refl _) _).setCell (Nat.le_refl _) _
end Go.Proofs.Ytcbhfopabgiiiaa
namespace Go.Proofs.Ytcbhfopabgiiiaa
open Go.RowKit
set_option maxRecDepth 100000
variable {S T : Nat → Prop}
set_option maxHeartbeats 6000000 in
theorem l11Dfa2_c (v : Value) (f : List (Int × Int)) (t : Re) (x y : Int) (w : World) (ht : t.wf) (h : Pairs S w v (f ++ t.flat ++ [(x, y)])) (hp : pOk x y) (h0 : pNeeds x = 2) (hl : (f ++ t.flat).length ≤ 900) (hf : 0 < f.length)
    (IH : ∀ (v : Value) (w : World), Pairs S w v f → Calls Try.prog 161 #[v] w (RDw w))
    (IH' : ∀ (v : Value) (w : World), Pairs S w v t.flat → Calls Try.prog 161 #[v] w (RDw w)) : Calls Try.prog 161 #[v] w (RDw w) := by
  have hH := Lib.hid h
  obtain ⟨a, cap, rfl, _⟩ := h.shape
  obtain ⟨b, off, rfl, c0, c1⟩ := h.at (k := (f ++ t.flat).length) (by simp)
  rw [List.getElem_append_right (Nat.le_refl _)] at c0 c1
  simp only [Nat.sub_self, List.getElem_cons_zero] at c0 c1
  clear h
  obtain ⟨W5, hW5⟩ : ∃ W5, W5 = ((((w.alloc (.cells #[.slice none 0 0, .slice none 0 0] 26)).alloc (.cells #[.int .i64 0, .int .i64 0, .int .i64 0] 3)).alloc (.cells #[.slice (some ⟨w.heap.size + 1, 0, none⟩) 3 3] 39)).alloc (.cells #[.bool false] 4)).alloc (.cells #[.slice (some ⟨w.heap.size + 1 + 1, 0, none⟩) 1 1, .slice (some ⟨w.heap.size + 1 + 1 + 1, 0, none⟩) 1 1] 26) := ⟨_, rfl⟩
  have HP5 := Lib.hid (pre5 hW5)
  have hz5 : Hid (W5.heap.size = w.heap.size + 5) := by rw [hW5]; simp [Hid]
  replace c0 := kpB (S := fun _ => True) HP5.out.bel _ _ trivial c0
  replace c1 := kpB (S := fun _ => True) HP5.out.bel _ _ trivial c1
  have HW5 := Lib.hid hW5; clear hW5
  rw [HW5.out] at c0 c1
  have HP := Lib.hid hp; clear hp
  have H0 := Lib.hid h0; clear h0
  have Hl := Lib.hid hl; clear hl
  have Hf := Lib.hid hf; clear hf
  have HT := Lib.hid ht; clear ht
  obtain ⟨n, hn⟩ : ∃ n, n = (f ++ t.flat).length := ⟨_, rfl⟩
  have hn1 : 0 < n := by have := Hf.out; rw [hn, List.length_append]; omega
  have hn9 : n ≤ 900 := by have := Hl.out; omega
  rw [← hn] at c0 c1
  rw [List.length_append, List.length_singleton, ← hn] at hH
  rw [List.length_append, List.length_singleton, ← hn]
  have Hn := Lib.hid hn; clear hn
  have hnI : (0 : Int) < (n : Int) := by omega
  go_enter Try.func161, Try.ntmps161
  go_wp2_with fail
  rw [← HW5.out]
  rw [show w.heap.size + 1 + 1 + 1 + 1 + 1 = W5.heap.size by rw [hz5.out]]
  obtain ⟨W, hW⟩ : ∃ W, W = W5.alloc (.cells #[.int .i64 x, .int .i64 y] 62) := ⟨_, rfl⟩
  have hb6 : Hid (Below W5.heap.size W5 W) := by rw [hW]; exact (Below.refl _ _).alloc (Nat.le_refl _) _
  have K6 : Hid (W.heap[W5.heap.size]? = some (.cells #[.int .i64 x, .int .i64 y] 62 (0, 0))) := by rw [hW]; exact blkNew _ _ rfl
  rw [← hW]
  clear c0 c1 hW HW5
  refine (l2Split2_c _ f t x y W HT.out (hH.out.stay (kpB (HP5.out.stay hb6.out).bel)) HP.out H0.out Hl.out Hf.out).mono ?_
  rintro e w1 ⟨va, vb, rfl, hb1, hva, hvb⟩
  have hva' := hva.out
  have hvb' := hvb.out
  obtain ⟨aa, ca, rfl, _⟩ := hva.out.shape
  obtain ⟨ab, cb, rfl, _⟩ := hvb.out.shape
  clear hva hvb
  have HVA := Lib.hid hva'; clear hva'
  have HVB := Lib.hid hvb'; clear hvb'
  obtain ⟨nf, hnf⟩ : ∃ n, n = f.length := ⟨_, rfl⟩
  obtain ⟨nt, hnt⟩ : ∃ n, n = t.flat.length := ⟨_, rfl⟩
  have hnf1 : (0 : Int) < (nf : Int) := by have := Hf.out; omega
  have hnt1 : (0 : Int) < (nt : Int) := by have := t.flat_pos; omega
  have hnf9 : nf ≤ 900 := by have := Hl.out; rw [List.length_append] at this; omega
  have hnt9 : nt ≤ 900 := by have := Hl.out; rw [List.length_append] at this; omega
  rw [← hnf] at HVA ⊢
  rw [← hnt] at HVB ⊢
  clear hnf hnt
  have HQ := Lib.hid ((HP5.out.stay hb6.out).stay hb1)
  have K61 := Lib.hid (blkBel hb1 K6.out)
  obtain ⟨d0, d1, _, _⟩ := blk2 HQ.out.kd
  obtain ⟨W8, hW8⟩ : ∃ x, x = (w1.alloc (.cells #[.slice (some ⟨w.heap.size + 1 + 1, 0, none⟩) 1 1, .slice (some ⟨w.heap.size + 1 + 1 + 1, 0, none⟩) 1 1] 26)).alloc (.cells #[.slice (some ⟨w.heap.size + 1 + 1, 0, none⟩) 1 1, .slice (some ⟨w.heap.size + 1 + 1 + 1, 0, none⟩) 1 1] 26) := ⟨_, rfl⟩
  have hb8 : Hid (Below w1.heap.size w1 W8) := by rw [hW8]; exact ((Below.refl _ _).alloc (Nat.le_refl _) _).alloc (by simp) _
  have d0' : ∀ o : Obj, (w1.alloc o).cell? ⟨w.heap.size + 1 + 1 + 1 + 1, 0, none⟩ = _ := fun o => kpAlloc (S := fun _ => True) _ _ trivial d0
  have d1' : ∀ o : Obj, (w1.alloc o).cell? ⟨w.heap.size + 1 + 1 + 1 + 1, 1, none⟩ = _ := fun o => kpAlloc (S := fun _ => True) _ _ trivial d1
  have K8 : Hid (W8.heap[w1.heap.size]? = some (.cells #[.slice (some ⟨w.heap.size + 1 + 1, 0, none⟩) 1 1, .slice (some ⟨w.heap.size + 1 + 1 + 1, 0, none⟩) 1 1] 26 (0, 0))) := by rw [hW8]; exact blkOld (blkNew _ _ rfl)
  have K9 : Hid (W8.heap[w1.heap.size + 1]? = some (.cells #[.slice (some ⟨w.heap.size + 1 + 1, 0, none⟩) 1 1, .slice (some ⟨w.heap.size + 1 + 1 + 1, 0, none⟩) 1 1] 26 (0, 0))) := by rw [hW8]; exact blkNew _ _ (by simp)
  have hz8 : Hid (W8.heap.size = w1.heap.size + 2) := by rw [hW8]; simp [Hid]
  have HW8 := Lib.hid hW8; clear hW8
  have hw1 : Hid (w.heap.size + 6 ≤ w1.heap.size) := Lib.hid (by have := (Array.getElem?_eq_some_iff.1 K61.out).1; have := hz5.out; omega)
  go_wp2_with fail
  rw [← HW8.out]
  clear HW8 d0 d1 d0' d1'
  refine (IH _ W8 (HVA.out.stay (kpB hb8.out))).mono ?_
  rintro e w9 ⟨D, v1, v2, bb, rfl, hb9, hD, hd⟩
  obtain ⟨aN, cN, aE, cE, rfl, rfl, hnn, hmm⟩ := hd.out.shapes
  have HQ9 := Lib.hid ((HQ.out.stay hb8.out).stay hb9)
  have K69 := Lib.hid (blkBel hb9 (blkBel hb8.out K61.out))
  have K89 := Lib.hid (blkBel hb9 K8.out)
  have K99 := Lib.hid (blkBel hb9 K9.out)
  obtain ⟨e0, e1, g0, g1⟩ := blk2 K89.out
  obtain ⟨WA, hWA⟩ : ∃ x, x = (w9.setCell ⟨w1.heap.size, 0, none⟩ (.slice aN D.1.length cN)).setCell ⟨w1.heap.size, 1, none⟩ (.slice aE D.2.length cE) := ⟨_, rfl⟩
  have hQA : Hid (Pre w WA) := by have := hw1.out; rw [hWA]; exact (HQ9.out.set (by omega) _).set (by omega) _
  have hzA : Hid (WA.heap.size = w9.heap.size) := by rw [hWA]; simp [Hid, World.setCell]
  have K8A : Hid (WA.heap[w1.heap.size]? = some (.cells #[.slice aN D.1.length cN, .slice aE D.2.length cE] 26 (0, 0))) := by rw [hWA]; exact heap_set (heap_set K89.out 0 _) 1 _
  have K9A : Hid (WA.heap[w1.heap.size + 1]? = some (.cells #[.slice (some ⟨w.heap.size + 1 + 1, 0, none⟩) 1 1, .slice (some ⟨w.heap.size + 1 + 1 + 1, 0, none⟩) 1 1] 26 (0, 0))) := by rw [hWA]; exact blkSet (blkSet K99.out (by omega)) (by omega)
  have hz89 := Lib.hid hb9.size
  have hdA : Hid (DfaR (fun b => w1.heap.size + 2 ≤ b) WA (.slice aN D.1.length cN) (.slice aE D.2.length cE) D) := by
    have hk : Kp (· ≠ w1.heap.size) w9 WA := by rw [hWA]; exact kpSet.trans kpSet
    have h8 := hz8.out
    exact Lib.hid ((hd.out.mono (T := fun b => w1.heap.size + 2 ≤ b) (fun b h => by omega)).stay (hk.mono fun b h => by omega))
  have h65 : Hid (W5.heap.size < w1.heap.size) := Lib.hid (Array.getElem?_eq_some_iff.1 K61.out).1
  have K6A : Hid (WA.heap[W5.heap.size]? = some (.cells #[.int .i64 x, .int .i64 y] 62 (0, 0))) := by
    have hne : W5.heap.size ≠ w1.heap.size := by have := h65.out; omega
    rw [hWA]; exact blkSet (blkSet K69.out hne) hne
  have HVB9 := Lib.hid (HVB.out.stay (kpB (hb8.out.trans (hb9.mono hb8.out.size))))
  have HVBA : Hid (Pairs S WA (.slice ab nt cb) t.flat) := by
    have hk : Kp (fun b => b < w1.heap.size) w9 WA := by rw [hWA]; exact (kpSet.trans kpSet).mono (T := fun b => b ≠ w1.heap.size) fun b h => by omega
    have h := (Fl.stay (Fl.inHeap HVB.out) (kpB (hb8.out.trans (hb9.mono hb8.out.size))))
    exact Lib.hid (Fl.mono (Fl.stay h (hk.mono fun b hb => hb.2)) fun b hb => hb.1)
  have HWA := Lib.hid hWA; clear hWA
  go_wp2_with fail
  rw [← HWA.out]
  refine (IH' _ WA HVBA.out).mono ?_
  rintro e w10 ⟨E, z1, z2, cc, rfl, hb10, hE, he⟩
  obtain ⟨aM, cM, aF, cF, rfl, rfl, hnn', hmm'⟩ := he.out.shapes
  have HQ10 := Lib.hid (hQA.out.stay hb10)
  have K610 := Lib.hid (blkBel hb10 K6A.out)
  have K810 := Lib.hid (blkBel hb10 K8A.out)
  have K910 := Lib.hid (blkBel hb10 K9A.out)
  obtain ⟨e0', e1', g0', g1'⟩ := blk2 K910.out
  obtain ⟨WC, hWC⟩ : ∃ x, x = (w10.setCell ⟨w1.heap.size + 1, 0, none⟩ (.slice aM E.1.length cM)).setCell ⟨w1.heap.size + 1, 1, none⟩ (.slice aF E.2.length cF) := ⟨_, rfl⟩
  have hQC : Hid (Pre w WC) := by have := hw1.out; rw [hWC]; exact (HQ10.out.set (by omega) _).set (by omega) _
  have hzC : Hid (WC.heap.size = w10.heap.size) := by rw [hWC]; simp [Hid, World.setCell]
  have hw10 : Hid (w1.heap.size + 2 ≤ w10.heap.size) := Lib.hid (by have := hb10.size; have := hzA.out; have := hz8.out; have := hz89.out; omega)
  have hwA : w1.heap.size + 2 ≤ WA.heap.size := by have := hzA.out; have := hz8.out; have := hz89.out; omega
  have hkC : Hid (Kp (· ≠ w1.heap.size + 1) w10 WC) := by rw [hWC]; exact kpSet.trans kpSet
  have hdC : Hid (DfaR (fun b => w1.heap.size + 2 ≤ b) WC (.slice aN D.1.length cN) (.slice aE D.2.length cE) D) := Lib.hid ((hdA.out.stay (kpB hb10)).stay (hkC.out.mono fun b h => by omega))
  have heC : Hid (DfaR (fun b => w1.heap.size + 2 ≤ b) WC (.slice aM E.1.length cM) (.slice aF E.2.length cF) E) := Lib.hid ((he.out.mono (T := fun b => w1.heap.size + 2 ≤ b) (fun b h => by omega)).stay (hkC.out.mono fun b h => by omega))
  have K6C : Hid (WC.heap[W5.heap.size]? = some (.cells #[.int .i64 x, .int .i64 y] 62 (0, 0))) := by
    have hne : W5.heap.size ≠ w1.heap.size + 1 := by have := h65.out; omega
    rw [hWC]; exact blkSet (blkSet K610.out hne) hne
  have K8C : Hid (WC.heap[w1.heap.size]? = some (.cells #[.slice aN D.1.length cN, .slice aE D.2.length cE] 26 (0, 0))) := by rw [hWC]; exact blkSet (blkSet K810.out (by omega)) (by omega)
  have K9C : Hid (WC.heap[w1.heap.size + 1]? = some (.cells #[.slice aM E.1.length cM, .slice aF E.2.length cF] 26 (0, 0))) := by rw [hWC]; exact heap_set (heap_set K910.out 0 _) 1 _
  clear hwA
  have HWC := Lib.hid hWC
  obtain ⟨q0, q1, r0, r1⟩ := blk2 hQC.out.k2
  obtain ⟨t0, t1, _, _⟩ := blk2 hQC.out.kd
  rw [hWC] at q0 q1 r0 r1 t0 t1
  obtain ⟨WB, hWB⟩ : ∃ x, x = WC.alloc (.cells #[.slice (some ⟨w.heap.size + 1 + 1, 0, none⟩) 1 1, .slice (some ⟨w.heap.size + 1 + 1 + 1, 0, none⟩) 1 1] 26) := ⟨_, rfl⟩
  have hbB : Hid (Below WC.heap.size WC WB) := by rw [hWB]; exact (Below.refl _ _).alloc (Nat.le_refl _) _
  have HQB := Lib.hid (hQC.out.stay hbB.out)
  have p0 := (blk2 (blkBel hbB.out K6C.out)).1
  obtain ⟨u0, u1, _, _⟩ := blk2 (blkBel hbB.out K8C.out)
  obtain ⟨s0, s1, _, _⟩ := blk2 (blkBel hbB.out K9C.out)
  have K12 : Hid (WB.heap[w10.heap.size]? = some (.cells #[.slice (some ⟨w.heap.size + 1 + 1, 0, none⟩) 1 1, .slice (some ⟨w.heap.size + 1 + 1 + 1, 0, none⟩) 1 1] 26 (0, 0))) := by rw [hWB]; exact blkNew _ _ hzC.out.symm
  have hzB : Hid (WB.heap.size = w10.heap.size + 1) := by rw [hWB]; simp [Hid, hzC.out]
  have hdB := Lib.hid (hdC.out.stay (kpB hbB.out))
  have heB := Lib.hid (heC.out.stay (kpB hbB.out))
  have hwX : Hid (w.heap.size + 5 ≤ w10.heap.size) := Lib.hid (by have := hw1.out; have := hw10.out; omega)
  have HWB := Lib.hid hWB
  rw [hWB, hWC] at p0 u0 u1 s0 s1
  clear hWC hWB e0 e1 g0 g1
  cases bb
  · go_wp2
    refine bodyPost_ret (v := .tuple #[.agg #[.slice none 0 0, .slice none 0 0], .bool false]) (by simp [results, Try.results161, go_sem, q0, q1]) rfl (RDw.no ?_)
    rw [← HWC.out]
    exact (hQC.out.bel.setCell (Nat.le_refl _) _).setCell (Nat.le_refl _) _
  cases cc
  · go_wp2
    refine bodyPost_ret (v := .tuple #[.agg #[.slice none 0 0, .slice none 0 0], .bool false]) (by simp [results, Try.results161, go_sem, q0, q1]) rfl (RDw.no ?_)
    rw [← HWC.out]
    exact (hQC.out.bel.setCell (Nat.le_refl _) _).setCell (Nat.le_refl _) _
  have hok : okD D := by exact hD.out.elim (fun h => h.2) (fun h => by cases h.1)
  have hok' : okD E := by exact hE.out.elim (fun h => h.2) (fun h => by cases h.1)
  have Hok := Lib.hid hok; clear hok
  have Hok' := Lib.hid hok'; clear hok'
  rcases pNeeds_cases x y HP.out with ⟨rfl, rfl⟩ | ⟨rfl, rfl⟩ | ⟨rfl, hy0, hy2⟩ | ⟨rfl, rfl⟩ | ⟨rfl, rfl⟩ | ⟨rfl, rfl⟩ | ⟨rfl, rfl⟩ | ⟨rfl, rfl⟩
  case inr.inr.inr.inl =>
    go_wp2_with fail
    rw [← HWC.out, ← HWB.out]
    refine (l11Join_c _ _ _ _ D E WB hdB.out Hok.out heB.out Hok'.out).mono ?_
    rintro e w11 ⟨X2, v1, v2, b2, rfl, hb11, hD2, hd2⟩
    obtain ⟨aN2, cN2, aE2, cE2, rfl, rfl, hnn2, hmm2⟩ := hd2.out.shapes
    have HQ11 := Lib.hid (HQB.out.stay hb11)
    have K12b := Lib.hid (blkBel hb11 K12.out)
    obtain ⟨y0, y1, g2, g3⟩ := blk2 K12b.out
    rcases hD2.out with ⟨rfl, hok2⟩ | ⟨rfl, hno2⟩
    · have Hok2 := Lib.hid hok2; clear hok2
      go_wp2_with fail
      obtain ⟨WX, hWX⟩ : ∃ x, x = (w11.setCell ⟨w10.heap.size, 0, none⟩ (.slice aN2 X2.1.length cN2)).setCell ⟨w10.heap.size, 1, none⟩ (.slice aE2 X2.2.length cE2) := ⟨_, rfl⟩
      have hQX : Hid (Pre w WX) := by rw [hWX]; exact (HQ11.out.set hwX.out _).set hwX.out _
      have hdX : Hid (DfaR (w.heap.size ≤ ·) WX (.slice aN2 X2.1.length cN2) (.slice aE2 X2.2.length cE2) X2) := by
        have hk : Kp (· ≠ w10.heap.size) w11 WX := by rw [hWX]; exact kpSet.trans kpSet
        have h9 := hwX.out
        have hz := hzB.out
        exact Lib.hid (((hd2.out.mono (T := fun b => w.heap.size ≤ b ∧ b ≠ w10.heap.size) (fun b h => ⟨by omega, by omega⟩)).stay (hk.mono fun b h => h.2)).mono fun b h => h.1)
      rw [← hWX]
      clear hWX
      refine (l10Small_c _ _ X2 WX hdX.out Hok2.out).mono ?_
      rintro e w5 ⟨v1, v2, rfl, hb5, hd5⟩
      obtain ⟨aN, cN, aE, cE, rfl, rfl, _, _⟩ := hd5.out.rd.shapes
      have hz5' := hb5.size
      have K5 := Lib.hid (blkBel hb5 hQX.out.k2)
      have hbS := Lib.hid hQX.out.bel
      have hbs := hbS.out.size
      have hbi : w.heap.size < (WX).heap.size := (Array.getElem?_eq_some_iff.1 hQX.out.k2).1
      obtain ⟨f0, f1, f2, f3⟩ := blk2 K5.out
      go_wp2
      refine bodyPost_ret (v := .tuple #[.agg #[.slice aN (canon (lgD X2)).1.length cN, .slice aE (canon (lgD X2)).2.length cE], .bool true]) (by simp [results, Try.results161, go_sem, f0, f1, f2, f3]) rfl ?_
      exact RDw.out (B := (WX).heap.size) (g := w.heap.size) (hbS.out.trans (hb5.mono hbs)) (Nat.le_refl _) hbi (Lib.hid (.inl ⟨rfl, cnOk Hok2.out⟩)) (hd5.out.rd.mono fun b h => h.1)
    · have Hno2 := Lib.hid hno2; clear hno2
      obtain ⟨j0, j1, j2, j3⟩ := blk2 HQ11.out.k2
      have hne9 : w.heap.size ≠ w10.heap.size := by have := hwX.out; omega
      go_wp2
      refine bodyPost_ret (v := .tuple #[.agg #[.slice none 0 0, .slice none 0 0], .bool false]) (by simp [results, Try.results161, go_sem, j0, j1]) rfl (RDw.no ?_)
      exact ((((HQ11.out.set hwX.out _).set hwX.out _).bel).setCell (Nat.le_refl _) _).setCell (Nat.le_refl _) _
  case inr.inr.inr.inr.inl =>
    go_wp2_with fail
    rw [← HWC.out, ← HWB.out]
    refine (l11Pair1_c _ _ _ _ D E WB hdB.out heB.out Hok.out Hok'.out).mono ?_
    rintro e w11 ⟨v1, v2, b2, rfl, hb11, hPL⟩
    obtain ⟨X2, hD2, hd2⟩ : ∃ X2 : DfaD, Hid ((b2 = true ∧ okD X2) ∨ (b2 = false ∧ X2 = ([], []))) ∧ Hid (DfaR (WB.heap.size ≤ ·) w11 v1 v2 X2) := by
      rcases hPL.out with ⟨rfl, k, h1, h2, h3⟩ | ⟨rfl, rfl, rfl, _⟩
      · exact ⟨_, Lib.hid (.inl ⟨rfl, pair_ok h1 h2⟩), Lib.hid h3⟩
      · exact ⟨([], []), Lib.hid (.inr ⟨rfl, rfl⟩), Lib.hid (dfaNone _)⟩
    obtain ⟨aN2, cN2, aE2, cE2, rfl, rfl, hnn2, hmm2⟩ := hd2.out.shapes
    have HQ11 := Lib.hid (HQB.out.stay hb11)
    have K12b := Lib.hid (blkBel hb11 K12.out)
    obtain ⟨y0, y1, g2, g3⟩ := blk2 K12b.out
    rcases hD2.out with ⟨rfl, hok2⟩ | ⟨rfl, hno2⟩
    · have Hok2 := Lib.hid hok2; clear hok2
      go_wp2_with fail
      obtain ⟨WX, hWX⟩ : ∃ x, x = (w11.setCell ⟨w10.heap.size, 0, none⟩ (.slice aN2 X2.1.length cN2)).setCell ⟨w10.heap.size, 1, none⟩ (.slice aE2 X2.2.length cE2) := ⟨_, rfl⟩
      have hQX : Hid (Pre w WX) := by rw [hWX]; exact (HQ11.out.set hwX.out _).set hwX.out _
      have hdX : Hid (DfaR (w.heap.size ≤ ·) WX (.slice aN2 X2.1.length cN2) (.slice aE2 X2.2.length cE2) X2) := by
        have hk : Kp (· ≠ w10.heap.size) w11 WX := by rw [hWX]; exact kpSet.trans kpSet
        have h9 := hwX.out
        have hz := hzB.out
        exact Lib.hid (((hd2.out.mono (T := fun b => w.heap.size ≤ b ∧ b ≠ w10.heap.size) (fun b h => ⟨by omega, by omega⟩)).stay (hk.mono fun b h => h.2)).mono fun b h => h.1)
      rw [← hWX]
      clear hWX
      refine (l10Small_c _ _ X2 WX hdX.out Hok2.out).mono ?_
      rintro e w5 ⟨v1, v2, rfl, hb5, hd5⟩
      obtain ⟨aN, cN, aE, cE, rfl, rfl, _, _⟩ := hd5.out.rd.shapes
      have hz5' := hb5.size
      have K5 := Lib.hid (blkBel hb5 hQX.out.k2)
      have hbS := Lib.hid hQX.out.bel
      have hbs := hbS.out.size
      have hbi : w.heap.size < (WX).heap.size := (Array.getElem?_eq_some_iff.1 hQX.out.k2).1
      obtain ⟨f0, f1, f2, f3⟩ := blk2 K5.out
      go_wp2
      refine bodyPost_ret (v := .tuple #[.agg #[.slice aN (canon (lgD X2)).1.length cN, .slice aE (canon (lgD X2)).2.length cE], .bool true]) (by simp [results, Try.results161, go_sem, f0, f1, f2, f3]) rfl ?_
      exact RDw.out (B := (WX).heap.size) (g := w.heap.size) (hbS.out.trans (hb5.mono hbs)) (Nat.le_refl _) hbi (Lib.hid (.inl ⟨rfl, cnOk Hok2.out⟩)) (hd5.out.rd.mono fun b h => h.1)
    · have Hno2 := Lib.hid hno2; clear hno2
      obtain ⟨j0, j1, j2, j3⟩ := blk2 HQ11.out.k2
      have hne9 : w.heap.size ≠ w10.heap.size := by have := hwX.out; omega
      go_wp2
      refine bodyPost_ret (v := .tuple #[.agg #[.slice none 0 0, .slice none 0 0], .bool false]) (by simp [results, Try.results161, go_sem, j0, j1]) rfl (RDw.no ?_)
      exact ((((HQ11.out.set hwX.out _).set hwX.out _).bel).setCell (Nat.le_refl _) _).setCell (Nat.le_refl _) _
  case inr.inr.inr.inr.inr.inl =>
    go_wp2_with fail
    rw [← HWC.out, ← HWB.out]
    refine (l11Pair0_c _ _ _ _ D E WB hdB.out heB.out Hok.out Hok'.out).mono ?_
    rintro e w11 ⟨v1, v2, b2, rfl, hb11, hPL⟩
    obtain ⟨X2, hD2, hd2⟩ : ∃ X2 : DfaD, Hid ((b2 = true ∧ okD X2) ∨ (b2 = false ∧ X2 = ([], []))) ∧ Hid (DfaR (WB.heap.size ≤ ·) w11 v1 v2 X2) := by
      rcases hPL.out with ⟨rfl, k, h1, h2, h3⟩ | ⟨rfl, rfl, rfl, _⟩
      · exact ⟨_, Lib.hid (.inl ⟨rfl, pair_ok h1 h2⟩), Lib.hid h3⟩
      · exact ⟨([], []), Lib.hid (.inr ⟨rfl, rfl⟩), Lib.hid (dfaNone _)⟩
    obtain ⟨aN2, cN2, aE2, cE2, rfl, rfl, hnn2, hmm2⟩ := hd2.out.shapes
    have HQ11 := Lib.hid (HQB.out.stay hb11)
    have K12b := Lib.hid (blkBel hb11 K12.out)
    obtain ⟨y0, y1, g2, g3⟩ := blk2 K12b.out
    rcases hD2.out with ⟨rfl, hok2⟩ | ⟨rfl, hno2⟩
    · have Hok2 := Lib.hid hok2; clear hok2
      go_wp2_with fail
      obtain ⟨WX, hWX⟩ : ∃ x, x = (w11.setCell ⟨w10.heap.size, 0, none⟩ (.slice aN2 X2.1.length cN2)).setCell ⟨w10.heap.size, 1, none⟩ (.slice aE2 X2.2.length cE2) := ⟨_, rfl⟩
      have hQX : Hid (Pre w WX) := by rw [hWX]; exact (HQ11.out.set hwX.out _).set hwX.out _
      have hdX : Hid (DfaR (w.heap.size ≤ ·) WX (.slice aN2 X2.1.length cN2) (.slice aE2 X2.2.length cE2) X2) := by
        have hk : Kp (· ≠ w10.heap.size) w11 WX := by rw [hWX]; exact kpSet.trans kpSet
        have h9 := hwX.out
        have hz := hzB.out
        exact Lib.hid (((hd2.out.mono (T := fun b => w.heap.size ≤ b ∧ b ≠ w10.heap.size) (fun b h => ⟨by omega, by omega⟩)).stay (hk.mono fun b h => h.2)).mono fun b h => h.1)
      rw [← hWX]
      clear hWX
      refine (l10Small_c _ _ X2 WX hdX.out Hok2.out).mono ?_
      rintro e w5 ⟨v1, v2, rfl, hb5, hd5⟩
      obtain ⟨aN, cN, aE, cE, rfl, rfl, _, _⟩ := hd5.out.rd.shapes
      have hz5' := hb5.size
      have K5 := Lib.hid (blkBel hb5 hQX.out.k2)
      have hbS := Lib.hid hQX.out.bel
      have hbs := hbS.out.size
      have hbi : w.heap.size < (WX).heap.size := (Array.getElem?_eq_some_iff.1 hQX.out.k2).1
      obtain ⟨f0, f1, f2, f3⟩ := blk2 K5.out
      go_wp2
      refine bodyPost_ret (v := .tuple #[.agg #[.slice aN (canon (lgD X2)).1.length cN, .slice aE (canon (lgD X2)).2.length cE], .bool true]) (by simp [results, Try.results161, go_sem, f0, f1, f2, f3]) rfl ?_
      exact RDw.out (B := (WX).heap.size) (g := w.heap.size) (hbS.out.trans (hb5.mono hbs)) (Nat.le_refl _) hbi (Lib.hid (.inl ⟨rfl, cnOk Hok2.out⟩)) (hd5.out.rd.mono fun b h => h.1)
    · have Hno2 := Lib.hid hno2; clear hno2
      obtain ⟨j0, j1, j2, j3⟩ := blk2 HQ11.out.k2
      have hne9 : w.heap.size ≠ w10.heap.size := by have := hwX.out; omega
      go_wp2
      refine bodyPost_ret (v := .tuple #[.agg #[.slice none 0 0, .slice none 0 0], .bool false]) (by simp [results, Try.results161, go_sem, j0, j1]) rfl (RDw.no ?_)
      exact ((((HQ11.out.set hwX.out _).set hwX.out _).bel).setCell (Nat.le_refl _) _).setCell (Nat.le_refl _) _
  all_goals (exfalso; have := H0.out; simp [pNeeds] at this)
end Go.Proofs.Ytcbhfopabgiiiaa
namespace Go.Proofs.Ytcbhfopabgiiiaa
open Go.RowKit
set_option maxRecDepth 100000
variable {S T : Nat → Prop}
theorem l11Dfa_c (t : Re) (ht : t.wf) (hl : t.flat.length ≤ 900) (v : Value) (w : World) (h : Pairs S w v t.flat) : Calls Try.prog 161 #[v] w (RDw w) := by
  induction t generalizing v w with
  | none => exact l11Dfa0_c v 1 0 w h (by simp [pOk]) (by simp [pNeeds])
  | empty => exact l11Dfa0_c v 2 0 w h (by simp [pOk]) (by simp [pNeeds])
  | letter c => exact l11Dfa0_c v 3 c w h (by simp [Re.wf] at ht; simp [pOk, ht]) (by simp [pNeeds])
  | join a b ha hb =>
    simp only [Re.flat, List.length_append, List.length_singleton] at hl
    exact l11Dfa2_c v a.flat b 4 0 w ht.2 h (by simp [pOk]) (by simp [pNeeds]) (by rw [List.length_append]; omega) a.flat_pos (fun v w h => ha ht.1 (by omega) v w h) (fun v w h => hb ht.2 (by omega) v w h)
  | either a b ha hb =>
    simp only [Re.flat, List.length_append, List.length_singleton] at hl
    exact l11Dfa2_c v a.flat b 5 0 w ht.2 h (by simp [pOk]) (by simp [pNeeds]) (by rw [List.length_append]; omega) a.flat_pos (fun v w h => ha ht.1 (by omega) v w h) (fun v w h => hb ht.2 (by omega) v w h)
  | both a b ha hb =>
    simp only [Re.flat, List.length_append, List.length_singleton] at hl
    exact l11Dfa2_c v a.flat b 6 0 w ht.2 h (by simp [pOk]) (by simp [pNeeds]) (by rw [List.length_append]; omega) a.flat_pos (fun v w h => ha ht.1 (by omega) v w h) (fun v w h => hb ht.2 (by omega) v w h)
  | not a ha =>
    simp only [Re.flat, List.length_append, List.length_singleton] at hl
    exact l11Dfa1_c v a.flat 7 0 w h (by simp [pOk]) (by simp [pNeeds]) (by omega) a.flat_pos (fun v w h => ha ht (by omega) v w h)
  | star a ha =>
    simp only [Re.flat, List.length_append, List.length_singleton] at hl
    exact l11Dfa1_c v a.flat 8 0 w h (by simp [pOk]) (by simp [pNeeds]) (by omega) a.flat_pos (fun v w h => ha ht (by omega) v w h)
set_option maxHeartbeats 1000000 in
theorem CompileExpr_c (v : Value) (e : List (Int × Int)) (w : World) (h : Pairs S w v e) (hn : e.length ≤ 1048576) : Calls Try.prog 123 #[v] w (RDw w) := by
  obtain ⟨a, cap, rfl, _⟩ := h.shape
  obtain ⟨W, hW⟩ : ∃ W, W = w.alloc (.cells #[.slice none 0 0, .slice none 0 0] 26) := ⟨_, rfl⟩
  have Hb0 : Hid (Below w.heap.size w W) := by rw [hW]; exact (Below.refl _ _).alloc (Nat.le_refl _) _
  have K2 : Hid (W.heap[w.heap.size]? = some (.cells #[.slice none 0 0, .slice none 0 0] 26 (0, 0))) := by rw [hW]; exact blkNew _ _ rfl
  have H := Lib.hid (Pairs.stay h (kpB Hb0.out)); clear h
  have HW := Lib.hid hW; clear hW
  go_enter Try.func123, Try.ntmps123
  go_wp2_with fail
  rw [← HW.out]
  clear HW
  refine (sExprValid_c _ e W H.out hn).mono ?_
  rintro x w1 ⟨b1, rfl, hb1, hyes⟩
  have K21 := Lib.hid (blkBel hb1 K2.out)
  have hB1 := Lib.hid (Hb0.out.trans (hb1.mono Hb0.out.size))
  have hbs := hB1.out.size
  obtain ⟨d0, d1, d2, d3⟩ := blk2 K21.out
  cases b1
  · go_wp2
    refine bodyPost_ret (v := .tuple #[.agg #[.slice none 0 0, .slice none 0 0], .bool false]) (by simp [results, Try.results123, go_sem, d0, d1]) rfl (RDw.no ?_)
    exact (hB1.out.setCell (Nat.le_refl _) _).setCell (Nat.le_refl _) _
  · obtain ⟨t, ht, rfl, hl⟩ := (exprOk_iff e).1 (hyes.1 rfl)
    have HT := Lib.hid ht; clear ht
    go_wp2_with fail
    refine (l11Dfa_c t HT.out (by omega) _ w1 (Pairs.stay H.out (kpB hb1))).mono ?_
    rintro e w5 ⟨D', v1, v2, b', rfl, hb5, hD5, hd5⟩
    obtain ⟨aN, cN, aE, cE, rfl, rfl, _, _⟩ := hd5.out.shapes
    have K5 := Lib.hid (blkBel hb5 K21.out)
    obtain ⟨c0, c1, c2, c3⟩ := blk2 K5.out
    have hk2 : w.heap.size < w1.heap.size := (Array.getElem?_eq_some_iff.1 K21.out).1
    go_wp2
    refine bodyPost_ret (v := .tuple #[.agg #[.slice aN D'.1.length cN, .slice aE D'.2.length cE], .bool b']) (by simp [results, Try.results123, go_sem, c0, c1, c2, c3]) rfl ?_
    exact RDw.out (B := w1.heap.size) (g := w.heap.size) (hB1.out.trans (hb5.mono hbs)) (Nat.le_refl _) hk2 hD5 hd5.out
end Go.Proofs.Ytcbhfopabgiiiaa
