/- Automata joined and repeated: the reference's, as far as that they are automata. -/
import Derived.Test.YtcbhfopabgiiiaaGF
import Derived.Test.YtcbhfopabgiiiaaNos
set_option linter.unusedSimpArgs false
set_option linter.unusedVariables false
set_option linter.unusedSectionVars false
namespace Go.Proofs.Ytcbhfopabgiiiaa
open Go.RowKit
set_option maxRecDepth 100000
variable {S T : Nat → Prop}
theorem RDw.out {w w5 : World} {B g : Nat} {D : DfaD} {v1 v2 : Value} {b : Bool} (hb : Below w.heap.size w w5) (hg : w.heap.size ≤ g) (hgB : g < B) (hD : Hid ((b = true ∧ okD D) ∨ (b = false ∧ D = ([], [])))) (hd : DfaR (B ≤ ·) w5 v1 v2 D) :
    RDw w (.returned (.tuple #[.agg #[v1, v2], .bool b])) ((w5.setCell ⟨g, 0, none⟩ v1).setCell ⟨g, 1, none⟩ v2) := by
  have k1 : Kp (· ≠ g) w5 ((w5.setCell ⟨g, 0, none⟩ v1).setCell ⟨g, 1, none⟩ v2) := kpSet.trans kpSet
  refine ⟨D, v1, v2, b, rfl, (hb.setCell (p := ⟨g, 0, none⟩) hg _).setCell (p := ⟨g, 1, none⟩) hg _, hD, ?_⟩
  exact ((hd.mono (T := fun b => w.heap.size ≤ b ∧ b ≠ g) (fun b h => ⟨by omega, by omega⟩)).stay (k1.mono fun b h => h.2)).mono (fun b h => h.1)
/-- A move between states. -/
def mvIn (N : Nat) (m : Int × Int × Int) : Prop := (0 ≤ m.1 ∧ m.1 < N) ∧ (0 ≤ m.2.2 ∧ m.2.2 < N)
theorem mvA_in {D : DfaD} (h : okD D) {N : Nat} (hN : D.1.length ≤ N) : ∀ m ∈ mvA D D.1.length, mvIn N m := by
  intro m hm
  unfold mvA at hm
  rw [List.mem_flatMap] at hm
  obtain ⟨i, hi, hm⟩ := hm
  unfold mvR at hm
  rw [List.mem_map] at hm
  obtain ⟨c, hc, rfl⟩ := hm
  have hi' := List.mem_range.1 hi
  have hc' := List.mem_range.1 hc
  have := dn_lt h hi' hc'
  exact ⟨⟨by simp, by simp; omega⟩, ⟨by simp, by simp; omega⟩⟩
theorem enA_in (D : DfaD) (k : Nat) : ∀ x ∈ enA D k, 0 ≤ x ∧ x < k := by
  intro x hx
  unfold enA at hx
  rw [List.mem_map] at hx
  obtain ⟨i, hi, rfl⟩ := hx
  have := List.mem_range.1 (List.mem_filter.1 hi).1
  exact ⟨by simp, by omega⟩
set_option maxHeartbeats 4000000 in
theorem l11Star_c (vn ve : Value) (D : DfaD) (w : World) (h : DfaR S w vn ve D) (hD : okD D) : Calls Try.prog 190 #[.agg #[vn, ve]] w (RDw w) := by
  obtain ⟨a, c, b, d, rfl, rfl, hn, hm⟩ := h.shapes
  obtain ⟨n, hnn⟩ : ∃ n, n = D.1.length := ⟨_, rfl⟩
  have hn40 : n ≤ 40 := by rw [hnn]; exact hD.1.2
  rw [← hnn] at h hn ⊢
  have Hn := Lib.hid hnn; clear hnn
  obtain ⟨W, hW⟩ : ∃ W, W = (w.alloc (.cells #[.slice a n c, .slice b D.2.length d] 26)).alloc (.cells #[.slice none 0 0, .slice none 0 0] 26) := ⟨_, rfl⟩
  have Hb0 : Hid (Below w.heap.size w W) := by rw [hW]; exact ((Below.refl _ _).alloc (Nat.le_refl _) _).alloc (by simp) _
  have K0 : Hid (W.heap[w.heap.size]? = some (.cells #[.slice a n c, .slice b D.2.length d] 26 (0, 0))) := by rw [hW]; exact blkOld (blkNew _ _ rfl)
  have K2 : Hid (W.heap[w.heap.size + 1]? = some (.cells #[.slice none 0 0, .slice none 0 0] 26 (0, 0))) := by rw [hW]; exact blkNew _ _ (by simp)
  have hWs : Hid (W.heap.size = w.heap.size + 2) := by rw [hW]; simp [Hid]
  have H := Lib.hid (h.stay (kpB Hb0.out)); clear h
  have HW := Lib.hid hW; clear hW
  have HD := Lib.hid hD; clear hD
  have hD2 : Hid (nfv D = nfaD D) := nfv_yes HD.out
  obtain ⟨c0, c1, _, _⟩ := blk2 K0.out
  rw [HW.out] at c0 c1
  go_enter Try.func190, Try.ntmps190
  go_wp2_with fail
  rw [← HW.out]
  clear HW c0 c1
  refine (sNfaOf_c _ _ D W H.out).mono ?_
  rintro e w1 ⟨xm, xf, xe, rfl, hb, hx⟩
  rw [hD2.out] at hx ⊢
  have hst : (nfaD D).states = (n : Int) := by rw [Hn.out]; rfl
  rw [hst]
  clear hst hD2
  obtain ⟨a1, l1, ca1, rfl⟩ := hx.out.1.sl
  obtain ⟨a2, l2, ca2, rfl⟩ := hx.out.2.1.sl
  obtain ⟨a3, ca3, hx3, _⟩ := hx.out.2.2.1.shape
  subst hx3
  have Hx := Lib.hid hx.out; clear hx
  have hb1 := Lib.hid (Hb0.out.trans (hb.mono Hb0.out.size))
  have K2a := Lib.hid (blkBel hb K2.out)
  have hw1 := hb.size
  have hbW := Lib.hid hb
  clear hb
  -- the boxes and the two lists of one number
  obtain ⟨W6, hW6⟩ : ∃ x, x = (((w1.alloc (.cells #[.int .i64 n, .slice a1 l1 ca1, .slice a2 l2 ca2, .slice a3 (nfaD D).ends.length ca3] 75)).alloc (.cells #[.int .i64 n] 3)).alloc (.cells #[.int .i64 n] 3)).alloc (.cells #[.int .i64 ((n : Int) + 1), .slice a1 l1 ca1, .slice (some ⟨w1.heap.size + 1, 0, none⟩) 1 1, .slice (some ⟨w1.heap.size + 1 + 1, 0, none⟩) 1 1] 75) := ⟨_, rfl⟩
  have hb6 : Hid (Below w1.heap.size w1 W6) := by rw [hW6]; exact ((((Below.refl _ _).alloc (Nat.le_refl _) _).alloc (by simp) _).alloc (by simp; omega) _).alloc (by simp; omega) _
  have K5 : Hid (W6.heap[w1.heap.size]? = some (.cells #[.int .i64 n, .slice a1 l1 ca1, .slice a2 l2 ca2, .slice a3 (nfaD D).ends.length ca3] 75 (0, 0))) := by rw [hW6]; exact blkOld (blkOld (blkOld (blkNew _ _ rfl)))
  have q1 : Hid (W6.heap[w1.heap.size + 1]? = some (.cells #[.int .i64 n] 3 (0, 0))) := by rw [hW6]; exact blkOld (blkOld (blkNew _ _ (by simp)))
  have q2 : Hid (W6.heap[w1.heap.size + 1 + 1]? = some (.cells #[.int .i64 n] 3 (0, 0))) := by rw [hW6]; exact blkOld (blkNew _ _ (by simp))
  have q3 : Hid (W6.heap[w1.heap.size + 1 + 1 + 1]? = some (.cells #[.int .i64 ((n : Int) + 1), .slice a1 l1 ca1, .slice (some ⟨w1.heap.size + 1, 0, none⟩) 1 1, .slice (some ⟨w1.heap.size + 1 + 1, 0, none⟩) 1 1] 75 (0, 0))) := by rw [hW6]; exact blkNew _ _ (by simp)
  have hz6 : Hid (W6.heap.size = w1.heap.size + 4) := by rw [hW6]; simp [Hid]
  have HW6 := Lib.hid hW6; clear hW6
  have HS : Hid (NSt W W6 (w1.heap.size + 1 + 1 + 1) (w1.heap.size + 1 + 1) ((n : Int) + 1) (.slice a1 l1 ca1) (.slice (some ⟨w1.heap.size + 1, 0, none⟩) 1 1) (.slice (some ⟨w1.heap.size + 1 + 1, 0, none⟩) 1 1) (nfaD D).moves [(n : Int)] [(n : Int)]) :=
    ⟨hbW.out.trans (hb6.out.mono hw1), by omega, q3.out, Hx.out.1.stay hb6.out, ⟨rfl, .inr ⟨w1.heap.size + 1, 1, _, rfl, by omega, q1.out, Nat.le_refl _, by unfold maxLen; omega, by simp, by simp⟩⟩, ⟨rfl, .inr ⟨w1.heap.size + 1 + 1, 1, _, rfl, by omega, q2.out, Nat.le_refl _, by unfold maxLen; omega, by simp, by simp⟩⟩, ⟨by omega, by rw [hz6.out]; omega⟩, fun b h1 h2 => by injection h1 with h1; injection h2 with h2; simp only at h1 h2; omega⟩
  have hmvl : Hid ((nfaD D).moves.length = 3 * n) := Lib.hid (by show (mvA D D.1.length).length = _; rw [mvA_len, Hn.out])
  have hml : Hid ((nfaD D).moves.length ≤ 1000000000) := Lib.hid (by rw [hmvl.out]; omega)
  have hen : Hid ((nfaD D).ends = enA D n) := Lib.hid (by rw [Hn.out]; rfl)
  have hxe : Hid (OwnI W6 W.heap.size (.slice a3 (nfaD D).ends.length ca3) (nfaD D).ends) := Lib.hid (Hx.out.2.2.1.stay hb6.out)
  obtain ⟨e0, e1, e2, e3⟩ := blk4 q3.out
  have hsz6 := HS.out.sz
  go_wp2_with (at_builtin; rw [← HW6.out]; refine app3 elMove (by decide) rfl (.tmp 23) (.tmp 26) rfl W.heap.size _ (nfaD D).moves _ _ _ W6 (B := w1.heap.size + 1 + 1 + 1 + 1) (by have := hz6.out; omega) rfl rfl HS.out.mv hml.out hsz6 ?_; intro v8 w8 h8 hg8; obtain ⟨a8, n8, c8, rfl⟩ := h8.out.sl; have hk8 := Lib.hid (HS.out.hdM hg8); obtain ⟨f0, f1, f2, f3⟩ := blk4 hk8.out; have f4 := blkFz hk8.out 1)
  obtain ⟨w9, hw9⟩ : ∃ x, x = w8.setCell ⟨w1.heap.size + 1 + 1 + 1, 1, none⟩ (.slice a8 n8 c8) := ⟨_, rfl⟩
  obtain ⟨G, hG⟩ : ∃ G, G = w1.heap.size + 1 + 1 + 1 := ⟨_, rfl⟩
  have hN0 := HS.out.addM hg8 h8.out
  rw [← hw9] at hN0
  have hxe8 := World.ownsRow.kept hxe.out hg8 (ownOr hxe.out HS.out.mv (ownNe2 hxe.out HS.out.mv (by decide)))
  have hxe9 : Hid (OwnI w9 W.heap.size (.slice a3 (nfaD D).ends.length ca3) (nfaD D).ends) := Lib.hid (by rw [hw9]; exact ownSetNe hxe8 (ownNe hxe8 hk8.out (by decide)) _)
  have K59 : Hid (w9.heap[w1.heap.size]? = some (.cells #[.int .i64 n, .slice a1 l1 ca1, .slice a2 l2 ca2, .slice a3 (nfaD D).ends.length ca3] 75 (0, 0))) := Lib.hid (by rw [hw9]; exact blkSet (blkGrow hg8 K5.out (fun e => ownNe HS.out.mv K5.out (by decide) e.symm)) (by omega))
  have hWl : w.heap.size + 2 ≤ W.heap.size := by rw [hWs.out]; exact Nat.le_refl _
  rw [← hG] at hN0 hw9 ⊢
  have HN := Lib.hid hN0
  have HW9 := Lib.hid hw9
  have hGl : w1.heap.size < G := by omega
  clear hN0 hxe8 h8 hg8 hk8 f0 f1 f2 f3 f4 e0 e1 e2 e3 HS q1 q2 q3 hb6 hz6 HW6 hxe hw9 hG K5
  obtain ⟨M, hM⟩ : ∃ M, M = (nfaD D).ends.length := ⟨_, rfl⟩
  have hMn : M ≤ n := by rw [hM, hen.out]; exact enA_len D n
  have hIn0 : Hid (∀ m ∈ (nfaD D).moves ++ [((n : Int), (-1 : Int), (0 : Int))], mvIn (n + 1) m) := fun m hm => by
    rcases List.mem_append.1 hm with hm | hm
    · exact mvA_in HD.out (by rw [← Hn.out]; omega) m hm
    · simp at hm; subst hm; exact ⟨⟨by dsimp only; omega, by dsimp only; omega⟩, ⟨by dsimp only; omega, by dsimp only; omega⟩⟩
  have hLn0 : Hid (((nfaD D).moves ++ [((n : Int), (-1 : Int), (0 : Int))]).length ≤ 200) := Lib.hid (by rw [List.length_append, hmvl.out]; simp; omega)
  rw [← hM] at hxe9 K59
  have HM := Lib.hid hM; clear hM
  go_wp2_with fail
  rw [← HW9.out]
  clear HW9
  go_loopw [7] (fun i wr => ∃ (k : Nat) (vm : Value) (ms : List (Int × Int × Int)), k ≤ M ∧ i = .int .i64 k ∧ Hid (NSt W wr G (w1.heap.size + 1 + 1) ((n : Int) + 1) vm (.slice (some ⟨w1.heap.size + 1, 0, none⟩) 1 1) (.slice (some ⟨w1.heap.size + 1 + 1, 0, none⟩) 1 1) ms [(n : Int)] [(n : Int)]) ∧
      Hid (∀ m ∈ ms, mvIn (n + 1) m) ∧ ms.length ≤ 200 + k ∧ Hid (OwnI wr W.heap.size (.slice a3 M ca3) (nfaD D).ends) ∧ Hid (wr.heap[w1.heap.size]? = some (.cells #[.int .i64 n, .slice a1 l1 ca1, .slice a2 l2 ca2, .slice a3 M ca3] 75 (0, 0)))) (fun i _ => M - (intOf i).toNat)
  case atStart => exact ⟨0, _, _, by omega, rfl, HN, hIn0, hLn0.out, hxe9, K59⟩
  case round =>
    clear HN hIn0 hLn0 hxe9 K59
    obtain ⟨k, vm, ms, hk, rfl, hs, hin, hml2, hxe, hk5⟩ := hrel
    obtain ⟨d0, d1, d2, d3⟩ := blk4 hk5.out
    by_cases hlt : k < M
    · obtain ⟨bx, ox, ex, hel⟩ := hxe.out.rd.at (k := k) (by rw [← HM.out]; exact hlt)
      cases ex
      have hev := enA_in D n _ (by rw [← hen.out]; exact List.getElem_mem (show k < (nfaD D).ends.length by rw [← HM.out]; exact hlt))
      generalize (nfaD D).ends[k]'(by rw [← HM.out]; exact hlt) = y at *
      have Hev := Lib.hid hev; clear hev
      have hkI : (k : Int) < (M : Int) := by omega
      obtain ⟨av, cv, hv1, _⟩ := hs.out.mv.shape
      obtain ⟨nx, hnx⟩ : ∃ nx, nx = ms.length := ⟨_, rfl⟩
      rw [← hnx] at hv1 hml2
      have Hnx := Lib.hid hnx; clear hnx
      subst hv1
      obtain ⟨e0, e1, e2, e3⟩ := blk4 hs.out.hd
      have HXD := Lib.hid (hs.out.stay ((Below.refl _ _).drew))
      have HED := Lib.hid (hxe.out.stay ((Below.refl _ _).drew))
      have HA : Hid (∀ p v, wr.cell? p = some v → (wr.drew.alloc (.cells #[.int .i64 y, .int .i64 (-1), .int .i64 n] 80)).cell? p = some v) := fun p v h => kpAlloc (S := fun _ => True) _ _ trivial h
      have d3D : wr.drew.cell? ⟨w1.heap.size, 3, none⟩ = _ := d3
      have helD : wr.drew.cell? ⟨bx, ox + k, none⟩ = _ := hel
      have e1D : wr.drew.cell? ⟨G, 1, none⟩ = _ := e1
      have e1A := HA.out _ _ e1
      have e1B : (wr.alloc (.cells #[.int .i64 y, .int .i64 (-1), .int .i64 n] 80)).drew.cell? ⟨G, 1, none⟩ = _ := e1A
      have hsz := hs.out.sz
      go_wp2_with fail
      go_region_law
        (refine stepAppAt elMove (by decide) rfl (.tmp 37) (.tmp 45) rfl W.heap.size _ _ _ [.int .i64 y, .int .i64 (-1), .int .i64 n] _ wr.heap.size rfl rfl (HXD.out.mv.alloc _) (by exact blkNew _ _ rfl) rfl (by simp [Value.oneCell']) (by have := Hnx.out; omega) (by simp; omega) ?_
         intro g7 cap7 w7 ho7 hg7 hat7
         have hg8 : wr.drew.grownBy w7 _ := grownTrans (grownBel ((Below.refl _ _).alloc (Nat.le_refl _) _)) hg7
         have ho8 : Hid (Own3 w7 W.heap.size 80 (.slice (some ⟨g7, 0, none⟩) (ms.length + 1) cap7) (ms ++ [(y, (-1 : Int), (n : Int))])) := by unfold Own3; rw [List.length_append, cells3_app]; exact ho7.out
         have HX7 := Lib.hid (HXD.out.addM hg8 ho8.out)
         have b4' := HXD.out.hdM hg8
         have h57 := Lib.hid (blkGrow hg8 hk5.out (fun e => ownNe HXD.out.mv hk5.out (by decide) e.symm))
         have hxe7 := World.ownsRow.kept HED.out hg8 (ownOr HED.out HXD.out.mv (ownNe2 HED.out HXD.out.mv (by decide)))
         have hxe8 := Lib.hid (ownSetNe (b := G) (o := 1) hxe7 (ownNe hxe7 b4' (by decide)) (.slice (some ⟨g7, 0, none⟩) (ms.length + 1) cap7))
         obtain ⟨c0', c1', c2', c3'⟩ := blk4 b4'
         have f1' := blkFz b4' 1
         clear b4' hxe7)
      all_goals (
        have hin2 : Hid (∀ m ∈ ms ++ [(y, (-1 : Int), (n : Int))], mvIn (n + 1) m) := fun m hm => by
          rcases List.mem_append.1 hm with hm | hm
          · exact hin.out m hm
          · simp at hm; subst hm; have := Hev.out; exact ⟨⟨by dsimp only; omega, by dsimp only; omega⟩, ⟨by dsimp only; omega, by dsimp only; omega⟩⟩
        have hml3 : (ms ++ [(y, (-1 : Int), (n : Int))]).length ≤ 200 + (k + 1) := by rw [List.length_append, ← Hnx.out]; simp; omega
        clear d3D helD e1D e1A e1B HXD hg8 hat7 hg7 ho7 ho8 c0' c1' c2' c3' f1' d0 d1 d2 d3 e0 e1 e2 e3 hel
        go_wp2
        go_roundw
        case rel => exact ⟨k + 1, _, _, by omega, by go_num, HX7, hin2, hml3, hxe8, blkSet h57.out (by omega)⟩
        case measure => simp [intOf]; omega)
    · obtain rfl : k = M := by omega
      obtain ⟨e0, e1, e2, e3⟩ := blk4 hs.out.hd
      obtain ⟨av, cv, hv1, _⟩ := hs.out.mv.shape
      subst hv1
      have hN : Hid (NfaR (W.heap.size ≤ ·) wr (.slice av ms.length cv) (.slice (some ⟨w1.heap.size + 1, 0, none⟩) 1 1) (.slice (some ⟨w1.heap.size + 1 + 1, 0, none⟩) 1 1) ⟨(n : Int) + 1, ms, [(n : Int)], [(n : Int)]⟩) := Lib.hid ⟨hs.out.mv.rd, hs.out.fs.rd, (hs.out.o.2.2.1).rd⟩
      have hWN : Hid (WN ⟨(n : Int) + 1, ms, [(n : Int)], [(n : Int)]⟩ (n + 1)) := ⟨rfl, by omega, by show ms.length ≤ _; omega, hin.out, fun x hx => (by simp at hx; subst hx; exact ⟨by omega, by omega⟩), fun x hx => (by simp at hx; subst hx; exact ⟨by omega, by omega⟩)⟩
      have hbwr := Lib.hid (Hb0.out.trans (hs.out.bel.mono Hb0.out.size))
      have K2r := Lib.hid (blkBel hs.out.bel K2.out)
      have hsw := hs.out.sz
      have hkI : ¬ (k : Int) < (k : Int) := by omega
      clear hs hxe hk5 HM
      go_wp2_with fail
      rw [show (n : Int) + 1 = ((n + 1 : Nat) : Int) from rfl]
      refine (l9Dfa_c _ _ _ _ (n + 1) wr hN.out hWN.out).mono ?_
      rintro e w5 ⟨D', v1, v2, b', rfl, hb5, hD5, hd5⟩
      obtain ⟨aN, cN, aE, cE, rfl, rfl, _, _⟩ := hd5.out.shapes
      have hz5 := hb5.size
      have K5 := Lib.hid (blkBel hb5 K2r.out)
      obtain ⟨c0, c1, c2, c3⟩ := blk2 K5.out
      go_wp2
      refine bodyPost_ret (v := .tuple #[.agg #[.slice aN D'.1.length cN, .slice aE D'.2.length cE], .bool b']) (by simp [results, Try.results190, go_sem, c0, c1, c2, c3]) rfl ?_
      exact RDw.out (B := wr.heap.size) (g := w.heap.size + 1) (hbwr.out.trans (hb5.mono hbwr.out.size)) (by omega) (by omega) hD5 hd5.out
end Go.Proofs.Ytcbhfopabgiiiaa
