/- Automata joined: the reference's, as far as that they are automata. -/
import Derived.Test.YtcbhfopabgiiiaaCmp
set_option linter.unusedSimpArgs false
set_option linter.unusedVariables false
set_option linter.unusedSectionVars false
namespace Go.Proofs.Ytcbhfopabgiiiaa
open Go.RowKit
set_option maxRecDepth 100000
variable {S T : Nat → Prop}
/-- The automaton that grows, and what stays meanwhile. -/
structure JS (W W9 : World) (B G BE : Nat) (X : Option Nat) (n : Int) (vf : Value) (wr : World) (vm ve : Value) (ms : List (Int × Int × Int)) (es : List Int) : Prop where
  st : NSt W wr G BE n vm vf ve ms [0] es
  kx : Kp (fun b => b < B ∧ some b ≠ X) W9 wr
  px : vm.ownBlock = X ∨ ∀ b, vm.ownBlock = some b → B ≤ b
  hB : B ≤ BE
  hG : B ≤ G
  hf : ∀ b, vf.ownBlock = some b → b < BE
theorem JS.stay {W W9 wr w' : World} {B G BE : Nat} {X : Option Nat} {n : Int} {vf vm ve : Value} {ms : List (Int × Int × Int)} {es : List Int} (h : JS W W9 B G BE X n vf wr vm ve ms es) (k : Below wr.heap.size wr w') : JS W W9 B G BE X n vf w' vm ve ms es :=
  ⟨h.st.stay k, h.kx.trans (kpB k), h.px, h.hB, h.hG, h.hf⟩
theorem JS.addM {W W9 wr w' : World} {B G BE : Nat} {X : Option Nat} {n : Int} {vf vm ve v' : Value} {ms ms' : List (Int × Int × Int)} {es : List Int} (h : JS W W9 B G BE X n vf wr vm ve ms es) (hg : wr.grownBy w' vm.ownBlock) (hv : Own3 w' W.heap.size 80 v' ms') (hp : v'.ownBlock = vm.ownBlock ∨ ∃ q, v'.ownBlock = some q ∧ wr.heap.size ≤ q) :
    JS W W9 B G BE X n vf (w'.setCell ⟨G, 1, none⟩ v') v' ve ms' es := by
  have hG := h.hG
  have hE := h.st.eB.2
  have hB := h.hB
  refine ⟨h.st.addM hg hv, h.kx.trans (((kpG hg).mono fun b hb => ?_).trans ((kpSet (b := G)).mono fun b hb => by omega)), ?_, h.hB, h.hG, h.hf⟩
  · rcases h.px with e | e
    · rw [e]; exact hb.2
    · intro hbv; have := e b hbv.symm; omega
  · rcases hp with e | ⟨q, e, hq⟩
    · rw [e]; exact h.px
    · exact .inr fun b hb => by rw [e] at hb; cases hb; omega
theorem JS.addE {W W9 wr w' : World} {B G BE : Nat} {X : Option Nat} {n : Int} {vf vm ve v' : Value} {ms : List (Int × Int × Int)} {es es' : List Int} (h : JS W W9 B G BE X n vf wr vm ve ms es) (hg : wr.grownBy w' ve.ownBlock) (hv : OwnI w' BE v' es') :
    JS W W9 B G BE X n vf (w'.setCell ⟨G, 3, none⟩ v') vm v' ms es' := by
  have hG := h.hG
  have hB := h.hB
  refine ⟨h.st.addE h.hf hg hv, h.kx.trans (((kpG hg).mono fun b hb hbv => ?_).trans ((kpSet (b := G)).mono fun b hb => by omega)), h.px, h.hB, h.hG, h.hf⟩
  have := (World.ownsRow.lt h.st.en b hbv.symm).1
  omega
theorem NfaO.mvR {w : World} {base : Nat} {a1 a2 a3 : Option Addr} {l1 l2 l3 c1 c2 c3 : Nat} {D : NfaD} (h : NfaO base w (.slice a1 l1 c1) (.slice a2 l2 c2) (.slice a3 l3 c3) D) : l1 = D.moves.length ∧ l3 = D.ends.length := by
  obtain ⟨_, _, e1, _⟩ := h.1.shape
  obtain ⟨_, _, e2, _⟩ := h.2.2.1.shape
  cases e1; cases e2
  exact ⟨rfl, rfl⟩
theorem ownFlS {P : Nat → Prop} {w : World} {base : Nat} {e : TypeId} {sz n : Nat} {v : Value} {cs : List Value} (h : w.ownsRow base e sz v n cs) (hS : ∀ b, v.ownBlock = some b → P b) : Fl P w v n cs := by
  rcases h.2 with ⟨rfl, rfl⟩ | ⟨g, cap, cur, rfl, _⟩
  · have hl := h.1
    obtain rfl : cs = [] := List.eq_nil_of_length_eq_zero (by simpa using hl)
    exact Fl.nil _
  · exact (ownAt h).fl.mono fun b hb => by subst hb; exact hS _ rfl
set_option maxHeartbeats 6000000 in
theorem l11Join_c (vn ve un ue : Value) (D E : DfaD) (w : World) (h : DfaR S w vn ve D) (hD : okD D) (h' : DfaR T w un ue E) (hE : okD E) : Calls Try.prog 188 #[.agg #[vn, ve], .agg #[un, ue]] w (RDw w) := by
  obtain ⟨a, c, b, d, rfl, rfl, hn, hm⟩ := h.shapes
  obtain ⟨a', c', b', d', rfl, rfl, hn', hm'⟩ := h'.shapes
  obtain ⟨n, hnn⟩ : ∃ n, n = D.1.length := ⟨_, rfl⟩
  obtain ⟨p, hpp⟩ : ∃ p, p = E.1.length := ⟨_, rfl⟩
  have hn40 : n ≤ 40 := by rw [hnn]; exact hD.1.2
  have hp40 : p ≤ 40 := by rw [hpp]; exact hE.1.2
  rw [← hnn] at h hn ⊢
  rw [← hpp] at h' hn' ⊢
  have Hn := Lib.hid hnn; clear hnn
  have Hp := Lib.hid hpp; clear hpp
  obtain ⟨W, hW⟩ : ∃ W, W = ((w.alloc (.cells #[.slice a n c, .slice b D.2.length d] 26)).alloc (.cells #[.slice a' p c', .slice b' E.2.length d'] 26)).alloc (.cells #[.slice none 0 0, .slice none 0 0] 26) := ⟨_, rfl⟩
  have Hb0 : Hid (Below w.heap.size w W) := by rw [hW]; exact (((Below.refl _ _).alloc (Nat.le_refl _) _).alloc (by simp) _).alloc (by simp; omega) _
  have K0 : Hid (W.heap[w.heap.size]? = some (.cells #[.slice a n c, .slice b D.2.length d] 26 (0, 0))) := by rw [hW]; exact blkOld (blkOld (blkNew _ _ rfl))
  have K1 : Hid (W.heap[w.heap.size + 1]? = some (.cells #[.slice a' p c', .slice b' E.2.length d'] 26 (0, 0))) := by rw [hW]; exact blkOld (blkNew _ _ (by simp))
  have K2 : Hid (W.heap[w.heap.size + 1 + 1]? = some (.cells #[.slice none 0 0, .slice none 0 0] 26 (0, 0))) := by rw [hW]; exact blkNew _ _ (by simp)
  have hWs : Hid (W.heap.size = w.heap.size + 3) := by rw [hW]; simp [Hid]
  have H := Lib.hid (h.stay (kpB Hb0.out)); clear h
  have H' := Lib.hid (h'.stay (kpB Hb0.out)); clear h'
  have HW := Lib.hid hW; clear hW
  have hEl : Hid (1 ≤ p) := Lib.hid (by rw [Hp.out]; exact hE.1.1)
  have HD := Lib.hid hD; clear hD
  have HE := Lib.hid hE; clear hE
  obtain ⟨c0, c1, _, _⟩ := blk2 K0.out
  rw [HW.out] at c0 c1
  go_enter Try.func188, Try.ntmps188
  go_wp2_with fail
  rw [← HW.out]
  clear c0 c1
  refine (sNfaOf_c _ _ D W H.out).mono ?_
  rintro e w1 ⟨xm, xf, xe, rfl, hb, hx⟩
  rw [show nfv D = nfaD D from nfv_yes HD.out] at hx ⊢
  rw [show (nfaD D).states = (n : Int) by rw [Hn.out]; rfl]
  obtain ⟨a1, l1, ca1, rfl⟩ := hx.out.1.sl
  obtain ⟨a2, l2, ca2, rfl⟩ := hx.out.2.1.sl
  obtain ⟨a3, l3, ca3, rfl⟩ := hx.out.2.2.1.sl
  obtain ⟨W2, hW2⟩ : ∃ x, x = w1.alloc (.cells #[.int .i64 n, .slice a1 l1 ca1, .slice a2 l2 ca2, .slice a3 l3 ca3] 75) := ⟨_, rfl⟩
  have hb2 : Hid (Below W.heap.size W W2) := by rw [hW2]; exact hb.alloc hb.size _
  have KX : Hid (W2.heap[w1.heap.size]? = some (.cells #[.int .i64 n, .slice a1 l1 ca1, .slice a2 l2 ca2, .slice a3 l3 ca3] 75 (0, 0))) := by rw [hW2]; exact blkNew _ _ rfl
  have hX2 : Hid (NfaO W.heap.size W2 (.slice a1 l1 ca1) (.slice a2 l2 ca2) (.slice a3 l3 ca3) (nfaD D)) := by rw [hW2]; exact hx.out.stay ((Below.refl _ _).alloc (Nat.le_refl _) _)
  have hz2 : Hid (W2.heap.size = w1.heap.size + 1) := by rw [hW2]; simp [Hid]
  have HW2 := Lib.hid hW2; clear hW2
  have hxB : Hid (∀ b, (Value.slice a1 l1 ca1).ownBlock = some b → b < w1.heap.size) := Lib.hid fun b hb' => (World.ownsRow.lt hx.out.1 b hb').2
  clear hx hb
  have K1a := Lib.hid (blkBel hb2.out K1.out)
  obtain ⟨f0, f1, _, _⟩ := blk2 K1a.out
  rw [HW2.out] at f0 f1
  go_wp2_with fail
  rw [← HW2.out]
  clear f0 f1 HW2
  refine (sNfaOf_c _ _ E W2 (H'.out.stay (kpB hb2.out))).mono ?_
  rintro e w3 ⟨ym, yf, ye, rfl, hb3, hy⟩
  rw [show nfv E = nfaD E from nfv_yes HE.out] at hy ⊢
  rw [show (nfaD E).states = (p : Int) by rw [Hp.out]; rfl]
  obtain ⟨b1, m1, cb1, rfl⟩ := hy.out.1.sl
  obtain ⟨b2, m2, cb2, rfl⟩ := hy.out.2.1.sl
  obtain ⟨b3, m3, cb3, rfl⟩ := hy.out.2.2.1.sl
  obtain ⟨rfl, rfl⟩ := hX2.out.mvR
  obtain ⟨rfl, rfl⟩ := hy.out.mvR
  have hw3 := Lib.hid hb3.size
  obtain ⟨W4, hW4⟩ : ∃ x, x = w3.alloc (.cells #[.int .i64 p, .slice b1 (nfaD E).moves.length cb1, .slice b2 m2 cb2, .slice b3 (nfaD E).ends.length cb3] 75) := ⟨_, rfl⟩
  have hb4 : Hid (Below W2.heap.size W2 W4) := by rw [hW4]; exact hb3.alloc hb3.size _
  have KY : Hid (W4.heap[w3.heap.size]? = some (.cells #[.int .i64 p, .slice b1 (nfaD E).moves.length cb1, .slice b2 m2 cb2, .slice b3 (nfaD E).ends.length cb3] 75 (0, 0))) := by rw [hW4]; exact blkNew _ _ rfl
  have KX4 := Lib.hid (blkBel hb4.out KX.out)
  have K14 := Lib.hid (blkBel (hb2.out.trans (hb4.out.mono hb2.out.size)) K1.out)
  have hY4 : Hid (NfaO W2.heap.size W4 (.slice b1 (nfaD E).moves.length cb1) (.slice b2 m2 cb2) (.slice b3 (nfaD E).ends.length cb3) (nfaD E)) := by rw [hW4]; exact hy.out.stay ((Below.refl _ _).alloc (Nat.le_refl _) _)
  have hX4 := Lib.hid (hX2.out.stay hb4.out)
  have hz4 : Hid (W4.heap.size = w3.heap.size + 1) := by rw [hW4]; simp [Hid]
  have HW4 := Lib.hid hW4; clear hW4
  clear hX2 hy KX hb3
  obtain ⟨f0, f1, _, _⟩ := blk2 K14.out
  obtain ⟨e0, e1, e2, e3⟩ := blk4 KX4.out
  rw [HW4.out] at f0 f1 e0 e1 e2 e3
  go_wp2_with fail
  rw [← HW4.out]
  clear f0 f1 e0 e1 e2 e3 HW4
  have hW4 : Hid (Below W.heap.size W W4) := Lib.hid (hb2.out.trans (hb4.out.mono hb2.out.size))
  have hz2b := hz2.out
  obtain ⟨B, hB⟩ : ∃ B, B = w3.heap.size + 1 := ⟨_, rfl⟩
  obtain ⟨Y, hY⟩ : ∃ Y, Y = w3.heap.size := ⟨_, rfl⟩
  obtain ⟨X, hX⟩ : ∃ X, X = w1.heap.size := ⟨_, rfl⟩
  obtain ⟨rx, hrx⟩ : ∃ rx, rx = (Value.slice a1 (nfaD D).moves.length ca1).ownBlock := ⟨_, rfl⟩
  have hz4b : Hid (W4.heap.size = B) := by rw [hB]; exact hz4
  have hw3b : Hid (X + 1 ≤ Y) := Lib.hid (by have := hw3.out; omega)
  have hYB : Hid (B = Y + 1) := Lib.hid (by omega)
  rw [← hB, ← hX, ← hY]
  rw [← hX] at KX4 hxB hz2b
  rw [← hY] at KY
  rw [hz2b] at hY4 hb4
  clear hz2 hz4 hw3 hB hY hX hz2b
  obtain ⟨W9, hW9⟩ : ∃ x, x = (W4.alloc (.cells #[.int .i64 0] 3)).alloc (.cells #[.int .i64 ((n : Int) + (p : Int)), .slice a1 (nfaD D).moves.length ca1, .slice (some ⟨B, 0, none⟩) 1 1, .slice none 0 0] 75) := ⟨_, rfl⟩
  have hb9 : Hid (Below W4.heap.size W4 W9) := by rw [hW9]; exact ((Below.refl _ _).alloc (Nat.le_refl _) _).alloc (by simp) _
  have kL : Hid (W9.heap[B]? = some (.cells #[.int .i64 0] 3 (0, 0))) := by rw [hW9]; exact blkOld (blkNew _ _ hz4b.out.symm)
  have kJ : Hid (W9.heap[B + 1]? = some (.cells #[.int .i64 ((n : Int) + (p : Int)), .slice a1 (nfaD D).moves.length ca1, .slice (some ⟨B, 0, none⟩) 1 1, .slice none 0 0] 75 (0, 0))) := by rw [hW9]; exact blkNew _ _ (by simp [hz4b.out])
  have hz9 : Hid (W9.heap.size = B + 1 + 1) := by rw [hW9]; simp [Hid, hz4b.out]
  have HW9 := Lib.hid hW9; clear hW9
  have hxy : ∀ b, some b = rx → b < X := fun b h => hxB.out b (by rw [← hrx]; exact h.symm)
  have hxe : ∀ b, (Value.slice a3 (nfaD D).ends.length ca3).ownBlock = some b → some b ≠ rx := fun b h e => ownNe2 hX4.out.1 hX4.out.2.2.1 (by decide) b (by rw [← hrx]; exact e.symm) h
  have hX9 := hX4.out.stay hb9.out
  have hY9 := hY4.out.stay hb9.out
  have RX : Hid (Ints (fun b => b < B ∧ some b ≠ rx) W9 (.slice a3 (nfaD D).ends.length ca3) (nfaD D).ends) := Lib.hid (ownFlS hX9.2.2.1 fun b h => ⟨by have := (World.ownsRow.lt hX4.out.2.2.1 b h).2; rw [hz4b.out] at this; exact this, hxe b h⟩)
  have RM : Hid (Trips (fun b => b < B ∧ some b ≠ rx) W9 (.slice b1 (nfaD E).moves.length cb1) (nfaD E).moves) := Lib.hid (ownFlS hY9.1 fun b h => by
    have := World.ownsRow.lt hY4.out.1 b h
    rw [hz4b.out] at this
    exact ⟨this.2, fun e => by have := hxy b e; omega⟩)
  have RY : Hid (Ints (fun b => b < B ∧ some b ≠ rx) W9 (.slice b3 (nfaD E).ends.length cb3) (nfaD E).ends) := Lib.hid (ownFlS hY9.2.2.1 fun b h => by
    have := World.ownsRow.lt hY4.out.2.2.1 b h
    rw [hz4b.out] at this
    exact ⟨this.2, fun e => by have := hxy b e; omega⟩)
  have hBX : Hid (X < B ∧ some X ≠ rx) := Lib.hid ⟨by have := hw3b.out; have := hYB.out; omega, fun e => by have := hxy X e; omega⟩
  have hBY : Hid (Y < B ∧ some Y ≠ rx) := Lib.hid ⟨by have := hYB.out; omega, fun e => by have := hxy Y e; have := hw3b.out; omega⟩
  have CX := Lib.hid (blk4 (blkBel hb9.out KX4.out))
  have CY := Lib.hid (blk4 (blkBel hb9.out KY.out))
  have HJ : Hid (JS W W9 B (B + 1) (B + 1 + 1) rx ((n : Int) + (p : Int)) (.slice (some ⟨B, 0, none⟩) 1 1) W9 (.slice a1 (nfaD D).moves.length ca1) (.slice none 0 0) (nfaD D).moves []) := by
    have hs4 := hW4.out.size
    have hzb := hz4b.out
    exact ⟨⟨hW4.out.trans (hb9.out.mono hs4), by omega, kJ.out, hX9.1, ⟨rfl, .inr ⟨B, 1, _, rfl, by omega, kL.out, Nat.le_refl _, by unfold maxLen; omega, by simp, by simp⟩⟩, ⟨rfl, .inl ⟨rfl, rfl⟩⟩, ⟨by omega, by rw [hz9.out]; exact Nat.le_refl _⟩, nofun⟩, Kp.refl _, .inl hrx.symm, by omega, by omega, fun b h => by cases h; show B < _; omega⟩
  clear hxy hxe hX9 hY9 hrx hX4 hY4 hb4 hxB KY KX4 K14 kJ kL hz9 hb9 K1a
  have hIn0 : Hid (∀ m ∈ (nfaD D).moves, mvIn (n + p) m) := Lib.hid (mvA_in HD.out (by rw [← Hn.out]; omega))
  have hYin : Hid (∀ m ∈ (nfaD E).moves, mvIn p m) := Lib.hid (mvA_in HE.out (by rw [← Hp.out]; omega))
  have hLn0 : Hid ((nfaD D).moves.length ≤ 200) := Lib.hid (by show (mvA D D.1.length).length ≤ _; rw [mvA_len, ← Hn.out]; omega)
  have hYl0 : Hid ((nfaD E).moves.length ≤ 200) := Lib.hid (by show (mvA E E.1.length).length ≤ _; rw [mvA_len, ← Hp.out]; omega)
  obtain ⟨L, hL⟩ : ∃ L, L = (nfaD E).moves.length := ⟨_, rfl⟩
  obtain ⟨M, hM⟩ : ∃ M, M = (nfaD D).ends.length := ⟨_, rfl⟩
  obtain ⟨Q, hQ⟩ : ∃ Q, Q = (nfaD E).ends.length := ⟨_, rfl⟩
  have hMn : Hid (M ≤ 40) := Lib.hid (by rw [hM]; exact Nat.le_trans (enA_len D D.1.length) HD.out.1.2)
  have hQn : Hid (Q ≤ 40) := Lib.hid (by rw [hQ]; exact Nat.le_trans (enA_len E E.1.length) HE.out.1.2)
  rw [← hL] at RM CY hYl0
  rw [← hM] at RX CX
  rw [← hQ] at RY CY
  have HL := Lib.hid hL; clear hL
  have HM := Lib.hid hM; clear hM
  have HQ := Lib.hid hQ; clear hQ
  have hYl := hYl0.out
  have hMn9 := hMn.out
  have hQn9 := hQn.out
  rw [← HW9.out]
  clear HW9
  go_loopw [10] (fun i wr => ∃ (k : Nat) (vm : Value) (ms : List (Int × Int × Int)), k ≤ L ∧ i = .int .i64 k ∧ Hid (JS W W9 B (B + 1) (B + 1 + 1) rx ((n : Int) + (p : Int)) (.slice (some ⟨B, 0, none⟩) 1 1) wr vm (.slice none 0 0) ms []) ∧
      Hid (∀ m ∈ ms, mvIn (n + p) m) ∧ ms.length ≤ 200 + k) (fun i _ => L - (intOf i).toNat)
  case atStart => exact ⟨0, _, _, by omega, rfl, HJ, hIn0, hLn0.out⟩
  case round =>
    clear HJ hIn0 hLn0
    obtain ⟨k, vm, ms, hk, rfl, hj, hin, hml⟩ := hrel
    have cy1 := hj.out.kx _ _ hBY.out CY.out.2.1
    by_cases hlt : k < L
    · have hTr : Hid (Trips _ wr (.slice b1 L cb1) (nfaD E).moves) := Lib.hid (RM.out.stay hj.out.kx)
      obtain ⟨bm, om, e1, m0, m1, m2⟩ := hTr.out.at (by rw [← HL.out]; exact hlt)
      subst e1
      clear hTr
      have hmv := hYin.out _ (List.getElem_mem (by rw [← HL.out]; exact hlt))
      generalize (nfaD E).moves[k]'(by rw [← HL.out]; exact hlt) = mv at *
      obtain ⟨x, y, z⟩ := mv
      obtain ⟨⟨hx0, hx1⟩, ⟨hz0, hz1⟩⟩ := hmv
      dsimp only at m0 m1 m2 hx0 hx1 hz0 hz1
      have hkI : (k : Int) < (L : Int) := by omega
      obtain ⟨av, cv, hv1, _⟩ := hj.out.st.mv.shape
      obtain ⟨nx, hnx⟩ : ∃ nx, nx = ms.length := ⟨_, rfl⟩
      rw [← hnx] at hv1 hml
      have Hnx := Lib.hid hnx; clear hnx
      subst hv1
      obtain ⟨e0, e1, e2, e3⟩ := blk4 hj.out.st.hd
      have hbA : Hid (Below wr.heap.size wr (wr.alloc (.cells #[.int .i64 x, .int .i64 y, .int .i64 z] 80))) := (Below.refl _ _).alloc (Nat.le_refl _) _
      have hjA := Lib.hid (hj.out.stay hbA.out)
      have e1A : (wr.alloc (.cells #[.int .i64 x, .int .i64 y, .int .i64 z] 80)).cell? ⟨B + 1, 1, none⟩ = _ := kpAlloc (S := fun _ => True) _ _ trivial e1
      have hsz := hj.out.st.sz
      have hgw : B + 1 < wr.heap.size := (Array.getElem?_eq_some_iff.1 hj.out.st.hd).1
      go_wp2_with (at_builtin; refine appAt elMove (by decide) rfl (.tmp 43) (.tmp 55) rfl W.heap.size _ ms.length _ [.int .i64 (x + n), .int .i64 y, .int .i64 (z + n)] (wr.alloc (.cells #[.int .i64 x, .int .i64 y, .int .i64 z] 80)) (B := wr.heap.size + 1) (by simp) rfl rfl hjA.out.st.mv rfl (by simp [Value.oneCell']) (by have := Hnx.out; omega) (by simp; omega) ?_; intro v8 w8 h8 hg8 hp8; have ho8 : Hid (Own3 w8 W.heap.size 80 v8 (ms ++ [(x + n, y, z + n)])) := (by unfold Own3; rw [List.length_append, cells3_app]; exact h8.out); obtain ⟨a8, n8, c8, rfl⟩ := ho8.out.sl; have hj8 := Lib.hid (hjA.out.addM hg8 ho8.out (Or.elim hp8.out .inl fun e => .inr ⟨_, e, by omega⟩)); have hk8 := Lib.hid (hjA.out.st.hdM hg8); obtain ⟨f0, f1, f2, f3⟩ := blk4 hk8.out; have f4 := blkFz hk8.out 1)
      have hin2 : Hid (∀ m ∈ ms ++ [(x + (n : Int), y, z + (n : Int))], mvIn (n + p) m) := fun m hm => by
        rcases List.mem_append.1 hm with hm | hm
        · exact hin.out m hm
        · simp at hm; subst hm; exact ⟨⟨by dsimp only; omega, by dsimp only; omega⟩, ⟨by dsimp only; omega, by dsimp only; omega⟩⟩
      have hml2 : (ms ++ [(x + (n : Int), y, z + (n : Int))]).length ≤ 200 + (k + 1) := by rw [List.length_append, ← Hnx.out]; simp; omega
      clear hj hjA hg8 h8 hp8 ho8 hk8 f0 f1 f2 f3 f4 e0 e1 e2 e3 e1A m0 m1 m2 cy1 hbA
      go_roundw
      case rel => exact ⟨k + 1, _, _, by omega, by go_num, hj8, hin2, hml2⟩
      case measure => simp [intOf]; omega
    · obtain rfl : k = L := by omega
      have hk400 : ms.length ≤ 400 := by omega
      clear hml
      go_wp2_with fail
      clear cy1
      go_loopw [12] (fun i wr => ∃ (q : Nat) (vm : Value) (ms : List (Int × Int × Int)), q ≤ M ∧ i = .int .i64 q ∧ Hid (JS W W9 B (B + 1) (B + 1 + 1) rx ((n : Int) + (p : Int)) (.slice (some ⟨B, 0, none⟩) 1 1) wr vm (.slice none 0 0) ms []) ∧
          Hid (∀ m ∈ ms, mvIn (n + p) m) ∧ ms.length ≤ 400 + q) (fun i _ => M - (intOf i).toNat)
      case atStart => exact ⟨0, _, _, by omega, rfl, hj, hin, hk400⟩
      case round =>
        clear hj hin hk400
        obtain ⟨q, vm, ms, hq, rfl, hj, hin, hml⟩ := hrel
        have cx3 := hj.out.kx _ _ hBX.out CX.out.2.2.2
        by_cases hlt : q < M
        · have hTr : Hid (Ints _ wr (.slice a3 M ca3) (nfaD D).ends) := Lib.hid (RX.out.stay hj.out.kx)
          obtain ⟨bx, ox, ex, hel⟩ := hTr.out.at (k := q) (by rw [← HM.out]; exact hlt)
          cases ex
          clear hTr
          have hev := enA_in D D.1.length _ (List.getElem_mem (show q < (nfaD D).ends.length by rw [← HM.out]; exact hlt))
          generalize (nfaD D).ends[q]'(by rw [← HM.out]; exact hlt) = y at *
          rw [← Hn.out] at hev
          have Hev := Lib.hid hev; clear hev
          have hqI : (q : Int) < (M : Int) := by omega
          obtain ⟨av, cv, hv1, _⟩ := hj.out.st.mv.shape
          obtain ⟨nx, hnx⟩ : ∃ nx, nx = ms.length := ⟨_, rfl⟩
          rw [← hnx] at hv1 hml
          have Hnx := Lib.hid hnx; clear hnx
          subst hv1
          obtain ⟨e0, e1, e2, e3⟩ := blk4 hj.out.st.hd
          have HXD := Lib.hid (hj.out.stay ((Below.refl _ _).drew))
          have HA : Hid (∀ p v, wr.cell? p = some v → (wr.drew.alloc (.cells #[.int .i64 y, .int .i64 (-1), .int .i64 n] 80)).cell? p = some v) := fun p v h => kpAlloc (S := fun _ => True) _ _ trivial h
          have d3D : wr.drew.cell? ⟨X, 3, none⟩ = _ := cx3
          have helD : wr.drew.cell? ⟨bx, ox + q, none⟩ = _ := hel
          have e1D : wr.drew.cell? ⟨B + 1, 1, none⟩ = _ := e1
          have e1A := HA.out _ _ e1
          have e1B : (wr.alloc (.cells #[.int .i64 y, .int .i64 (-1), .int .i64 n] 80)).drew.cell? ⟨B + 1, 1, none⟩ = _ := e1A
          have hsz := hj.out.st.sz
          have hnx9 : nx ≤ 1000000000 := by have := hMn.out; omega
          go_wp2_with fail
          go_region_law
            (refine stepAppAt elMove (by decide) rfl (.tmp 66) (.tmp 74) rfl W.heap.size _ _ _ [.int .i64 y, .int .i64 (-1), .int .i64 n] _ wr.heap.size rfl rfl (HXD.out.st.mv.alloc _) (by exact blkNew _ _ rfl) rfl (by simp [Value.oneCell']) (by have := Hnx.out; omega) (by simp; omega) ?_
             intro g7 cap7 w7 ho7 hg7 hat7
             have hg8 : wr.drew.grownBy w7 _ := grownTrans (grownBel ((Below.refl _ _).alloc (Nat.le_refl _) _)) hg7
             have ho8 : Hid (Own3 w7 W.heap.size 80 (.slice (some ⟨g7, 0, none⟩) (ms.length + 1) cap7) (ms ++ [(y, (-1 : Int), (n : Int))])) := by unfold Own3; rw [List.length_append, cells3_app]; exact ho7.out
             have HX7 := Lib.hid (HXD.out.addM hg8 ho8.out (Or.elim hat7.out (fun e => .inl e.symm) fun e => .inr ⟨g7, rfl, by rw [e]; simp⟩))
             have b4' := HXD.out.st.hdM hg8
             obtain ⟨c0', c1', c2', c3'⟩ := blk4 b4'
             have f1' := blkFz b4' 1
             clear b4')
          all_goals (
            have hin2 : Hid (∀ m ∈ ms ++ [(y, (-1 : Int), (n : Int))], mvIn (n + p) m) := fun m hm => by
              rcases List.mem_append.1 hm with hm | hm
              · exact hin.out m hm
              · simp at hm; subst hm; have := Hev.out; have := hEl.out; exact ⟨⟨by dsimp only; omega, by dsimp only; omega⟩, ⟨by dsimp only; omega, by dsimp only; omega⟩⟩
            have hml3 : (ms ++ [(y, (-1 : Int), (n : Int))]).length ≤ 400 + (q + 1) := by rw [List.length_append, ← Hnx.out]; simp; omega
            clear d3D helD e1D e1A e1B HXD hg8 hat7 hg7 ho7 ho8 c0' c1' c2' c3' f1' cx3 e0 e1 e2 e3 hel hj
            go_wp2
            go_roundw
            case rel => exact ⟨q + 1, _, _, by omega, by go_num, HX7, hin2, hml3⟩
            case measure => simp [intOf]; omega)
        · obtain rfl : q = M := by omega
          have hk500 : ms.length ≤ 500 := by have := hMn.out; omega
          clear hml
          go_wp2_with fail
          clear cx3
          go_loopw [13] (fun i wr => ∃ (t : Nat) (ve : Value) (es : List Int), t ≤ Q ∧ i = .int .i64 t ∧ Hid (JS W W9 B (B + 1) (B + 1 + 1) rx ((n : Int) + (p : Int)) (.slice (some ⟨B, 0, none⟩) 1 1) wr vm ve ms es) ∧
              Hid (∀ x ∈ es, 0 ≤ x ∧ x < ((n + p : Nat) : Int)) ∧ es.length = t) (fun i _ => Q - (intOf i).toNat)
          case atStart => exact ⟨0, _, [], by omega, rfl, hj, nofun, rfl⟩
          case round =>
            clear hj
            obtain ⟨t, ve, es, ht, rfl, hj, hes, hel9⟩ := hrel
            have cy3 := hj.out.kx _ _ hBY.out CY.out.2.2.2
            by_cases hlt : t < Q
            · have hTr : Hid (Ints _ wr (.slice b3 Q cb3) (nfaD E).ends) := Lib.hid (RY.out.stay hj.out.kx)
              obtain ⟨bx, ox, ex, hel⟩ := hTr.out.at (k := t) (by rw [← HQ.out]; exact hlt)
              cases ex
              clear hTr
              have hev := enA_in E E.1.length _ (List.getElem_mem (show t < (nfaD E).ends.length by rw [← HQ.out]; exact hlt))
              generalize (nfaD E).ends[t]'(by rw [← HQ.out]; exact hlt) = y at *
              rw [← Hp.out] at hev
              have hev1 := hev.1
              have hev2 := hev.2
              clear hev
              have htI : (t : Int) < (Q : Int) := by omega
              obtain ⟨av, cv, hv1, _⟩ := hj.out.st.en.shape
              rw [hel9] at hv1
              have Hel := Lib.hid hel9; clear hel9
              subst hv1
              obtain ⟨e0, e1, e2, e3⟩ := blk4 hj.out.st.hd
              have HXD := Lib.hid (hj.out.stay ((Below.refl _ _).drew))
              have HA : Hid (∀ p v, wr.cell? p = some v → (wr.drew.alloc (.cells #[.int .i64 (IntKind.i64.wrap (y + n))] 3)).cell? p = some v) := fun p v h => kpAlloc (S := fun _ => True) _ _ trivial h
              have d3D : wr.drew.cell? ⟨Y, 3, none⟩ = _ := cy3
              have helD : wr.drew.cell? ⟨bx, ox + t, none⟩ = _ := hel
              have e1D : wr.drew.cell? ⟨B + 1, 3, none⟩ = _ := e3
              have e1A := HA.out _ _ e3
              have e1B : (wr.alloc (.cells #[.int .i64 (IntKind.i64.wrap (y + n))] 3)).drew.cell? ⟨B + 1, 3, none⟩ = _ := e1A
              have hsz : B + 1 + 1 ≤ wr.heap.size := hj.out.st.eB.2
              go_wp2_with fail
              go_region_law
                (refine stepAppAt elInt (by decide) rfl (.tmp 85) (.tmp 93) rfl (B + 1 + 1) _ _ _ [.int .i64 (IntKind.i64.wrap (y + n))] _ wr.heap.size rfl rfl (HXD.out.st.en.alloc _) (by exact blkNew _ _ rfl) rfl (by simp [Value.oneCell']) (by have := Hel.out; have := hQn.out; omega) (by simp; omega) ?_
                 intro g7 cap7 w7 ho7 hg7 hat7
                 have hg8 : wr.drew.grownBy w7 _ := grownTrans (grownBel ((Below.refl _ _).alloc (Nat.le_refl _) _)) hg7
                 have ho8 : Hid (OwnI w7 (B + 1 + 1) (.slice (some ⟨g7, 0, none⟩) (es.length + 1) cap7) (es ++ [IntKind.i64.wrap (y + (n : Int))])) := by unfold OwnI; rw [List.length_append, List.map_append]; exact ho7.out
                 have HX7 := Lib.hid (HXD.out.addE hg8 ho8.out)
                 have b4' := HXD.out.st.hdE hg8
                 obtain ⟨c0', c1', c2', c3'⟩ := blk4 b4'
                 have f1' := blkFz b4' 3
                 clear b4')
              all_goals (
                rw [show IntKind.i64.wrap (y + (n : Int)) = y + (n : Int) from IntWalk.i64_in _ (by omega)] at HX7
                have hes2 : Hid (∀ x ∈ es ++ [y + (n : Int)], 0 ≤ x ∧ x < ((n + p : Nat) : Int)) := fun x hx => by
                  rcases List.mem_append.1 hx with hx | hx
                  · exact hes.out x hx
                  · simp at hx; subst hx; exact ⟨by omega, by omega⟩
                have hel2 : (es ++ [y + (n : Int)]).length = t + 1 := by rw [List.length_append, Hel.out]; rfl
                clear d3D helD e1D e1A e1B HXD hg8 hat7 hg7 ho7 ho8 c0' c1' c2' c3' f1' cy3 e0 e1 e2 e3 hel hj
                go_wp2
                go_roundw
                case rel => exact ⟨t + 1, _, _, by omega, by go_num, HX7, hes2, hel2⟩
                case measure => simp [intOf]; omega)
            · obtain rfl : t = Q := by omega
              obtain ⟨e0, e1, e2, e3⟩ := blk4 hj.out.st.hd
              obtain ⟨av, cv, hv1, _⟩ := hj.out.st.mv.shape
              subst hv1
              obtain ⟨ae, ce, hv1, _⟩ := hj.out.st.en.shape
              subst hv1
              have hN : Hid (NfaR (W.heap.size ≤ ·) wr (.slice av ms.length cv) (.slice (some ⟨B, 0, none⟩) 1 1) (.slice ae es.length ce) ⟨(n : Int) + p, ms, [0], es⟩) := Lib.hid ⟨hj.out.st.mv.rd, hj.out.st.fs.rd, (hj.out.st.o.2.2.1).rd⟩
              have hWN : Hid (WN ⟨(n : Int) + p, ms, [0], es⟩ (n + p)) := Lib.hid ⟨by show (n : Int) + p = _; omega, by omega, by show ms.length ≤ _; omega, hin.out, fun x hx => (by simp at hx; subst hx; have := hEl.out; exact ⟨by omega, by omega⟩), hes.out⟩
              have hbwr := Lib.hid (Hb0.out.trans (hj.out.st.bel.mono Hb0.out.size))
              have K2r := Lib.hid (blkBel hj.out.st.bel K2.out)
              have hsw := hj.out.st.sz
              have htI : ¬ (t : Int) < (t : Int) := by omega
              clear hj hel9
              go_wp2_with fail
              rw [show (n : Int) + p = ((n + p : Nat) : Int) from rfl]
              refine (l9Dfa_c _ _ _ _ (n + p) wr hN.out hWN.out).mono ?_
              rintro e w5 ⟨D', v1, v2, b', rfl, hb5, hD5, hd5⟩
              obtain ⟨aN, cN, aE, cE, rfl, rfl, _, _⟩ := hd5.out.shapes
              have hz5 := hb5.size
              have K5 := Lib.hid (blkBel hb5 K2r.out)
              obtain ⟨c0, c1, c2, c3⟩ := blk2 K5.out
              have hWs2 := hWs.out
              go_wp2
              refine bodyPost_ret (v := .tuple #[.agg #[.slice aN D'.1.length cN, .slice aE D'.2.length cE], .bool b']) (by simp [results, Try.results188, go_sem, c0, c1, c2, c3]) rfl ?_
              exact RDw.out (B := wr.heap.size) (g := w.heap.size + 1 + 1) (hbwr.out.trans (hb5.mono hbwr.out.size)) (by omega) (by omega) hD5 hd5.out
end Go.Proofs.Ytcbhfopabgiiiaa
