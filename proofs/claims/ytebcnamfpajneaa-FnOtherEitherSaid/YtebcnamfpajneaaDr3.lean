/- Two automata drawn. -/
import Derived.Test.YtebcnamfpajneaaDrd
import Derived.Test.YtebcnamfpajneaaSml
import Derived.Test.YtebcnamfpajneaaGF
import Derived.Deep.RegionHeld3
set_option linter.unusedSimpArgs false
set_option linter.unusedVariables false
set_option linter.unusedSectionVars false
namespace Go.Proofs.Ytebcnamfpajneaa
open Go.RowKit
set_option maxRecDepth 100000
variable {S T : Nat → Prop}
/-- The call answers two automata to be read. -/
def RDa2 (w : World) (e : Ending) (w' : World) : Prop := ∃ (A B : DfaD) (v1 v2 u1 u2 : Value), e = .returned (.tuple #[.agg #[v1, v2], .agg #[u1, u2]]) ∧ Below w.heap.size w w' ∧ Hid (DfaR (w.heap.size ≤ ·) w' v1 v2 A) ∧ Hid (DfaR (w.heap.size ≤ ·) w' u1 u2 B)
/-- Two automata were drawn. -/
def DrT (rb : Nat) (w : World) (e : Ending) (w' : World) : Prop := ∃ (A B : DfaD) (v1 v2 u1 u2 : Value), e = .returned (.tuple #[.agg #[v1, v2], .agg #[u1, u2]]) ∧ Dr rb w w' ∧ Hid (DfaR (w.heap.size ≤ ·) w' v1 v2 A) ∧ Hid (DfaR (w.heap.size ≤ ·) w' u1 u2 B)
/-- Where things stand behind the first draw: the results' boxes, the first automaton's box. -/
structure TZ (w : World) (rb p : Nat) (B4 : Nat) (v1 v2 : Value) (D : DfaD) (wr : World) : Prop where
  dr : Dr rb w wr
  rd : Rdx wr rb p
  lt : rb < w.heap.size
  k2 : wr.heap[w.heap.size]? = some (.cells #[.slice none 0 0, .slice none 0 0] 26 (0, 0))
  k3 : wr.heap[w.heap.size + 1]? = some (.cells #[.slice none 0 0, .slice none 0 0] 26 (0, 0))
  k4 : wr.heap[B4]? = some (.cells #[v1, v2] 26 (0, 0))
  hB : w.heap.size + 2 ≤ B4
  r : DfaR (w.heap.size + 2 ≤ ·) wr v1 v2 D
theorem TZ.dw {w wr w' : World} {rb p p' B4 : Nat} {v1 v2 : Value} {D : DfaD} (h : TZ w rb p B4 v1 v2 D wr) (hd : Dr rb wr w') (hr : Rdx w' rb p') : TZ w rb p' B4 v1 v2 D w' :=
  have hl := h.lt; have hb := h.hB
  ⟨h.dr.trans hd, hr, hl, hd.blk h.k2 (by omega), hd.blk h.k3 (by omega), hd.blk h.k4 (by omega), hb, h.r.stay (hd.kp.mono fun b hb => by show b ≠ rb; omega)⟩
theorem TZ.stay {w wr w' : World} {rb p B4 : Nat} {v1 v2 : Value} {D : DfaD} (h : TZ w rb p B4 v1 v2 D wr) (hb : Below wr.heap.size wr w') : TZ w rb p B4 v1 v2 D w' := h.dw (Dr.below hb) (h.rd.stay hb)
theorem TZ.c0 {w wr : World} {rb p B4 : Nat} {v1 v2 : Value} {D : DfaD} (h : TZ w rb p B4 v1 v2 D wr) : wr.cell? ⟨B4, 0, none⟩ = some v1 := (blk2 h.k4).1
theorem TZ.c1 {w wr : World} {rb p B4 : Nat} {v1 v2 : Value} {D : DfaD} (h : TZ w rb p B4 v1 v2 D wr) : wr.cell? ⟨B4, 1, none⟩ = some v2 := (blk2 h.k4).2.1
theorem kpTwoG {w : World} {b g : Nat} (u v : Value) (h : b < g) : Kp (fun k => g ≤ k) w ((w.setCell ⟨b, 0, none⟩ u).setCell ⟨b, 1, none⟩ v) :=
  (kpSet (b := b)).mono (fun k e => by show k ≠ b; omega) |>.trans ((kpSet (b := b)).mono fun k e => by show k ≠ b; omega)
theorem kpTwoGD {w : World} {b g : Nat} (u v : Value) (h : b < g) : Kp (fun k => g ≤ k) w ((w.setCell ⟨b, 0, none⟩ u).setCell ⟨b, 1, none⟩ v).drew := fun ad x hg e => kpTwoG u v h ad x hg e
theorem kpFourGD {w : World} {b c g : Nat} (u v x y : Value) (h : b < g) (h' : c < g) : Kp (fun k => g ≤ k) w ((((w.setCell ⟨b, 0, none⟩ u).setCell ⟨b, 1, none⟩ v).setCell ⟨c, 0, none⟩ x).setCell ⟨c, 1, none⟩ y).drew := fun ad z hg e => by
  have h1 := kpTwoG (w := w) u v h ad z hg e
  have h2 := kpTwoG (w := (w.setCell ⟨b, 0, none⟩ u).setCell ⟨b, 1, none⟩ v) x y h' ad z hg h1
  exact h2
theorem kpTwo {w : World} {b B : Nat} (u v : Value) (h : B ≠ b) : Kp (· = B) w ((w.setCell ⟨b, 0, none⟩ u).setCell ⟨b, 1, none⟩ v) :=
  (kpSet (b := b)).mono (fun k e => by subst e; exact h) |>.trans ((kpSet (b := b)).mono fun k e => by subst e; exact h)
/-- The results' boxes are written. -/
theorem DrT.fin {w wx : World} {rb : Nat} {A B : DfaD} {v1 v2 u1 u2 : Value} (hl : rb < w.heap.size) (hd : Dr rb w wx) (hA : DfaR (w.heap.size + 2 ≤ ·) wx v1 v2 A) (hB : DfaR (w.heap.size + 2 ≤ ·) wx u1 u2 B) :
    DrT rb w (.returned (.tuple #[.agg #[v1, v2], .agg #[u1, u2]])) ((((wx.setCell ⟨w.heap.size, 0, none⟩ v1).setCell ⟨w.heap.size, 1, none⟩ v2).setCell ⟨w.heap.size + 1, 0, none⟩ u1).setCell ⟨w.heap.size + 1, 1, none⟩ u2) := by
  have k : Kp (w.heap.size + 2 ≤ ·) wx ((((wx.setCell ⟨w.heap.size, 0, none⟩ v1).setCell ⟨w.heap.size, 1, none⟩ v2).setCell ⟨w.heap.size + 1, 0, none⟩ u1).setCell ⟨w.heap.size + 1, 1, none⟩ u2) :=
    (((kpSet.mono fun b h => by omega).trans (kpSet.mono fun b h => by omega)).trans (kpSet.mono fun b h => by omega)).trans (kpSet.mono fun b h => by omega)
  exact ⟨A, B, v1, v2, u1, u2, rfl, (((hd.setCell (Nat.le_refl _) _).setCell (Nat.le_refl _) _).setCell (by omega) _).setCell (by omega) _, (hA.stay k).mono fun b h => by omega, (hB.stay k).mono fun b h => by omega⟩
theorem DrT.drew {rb : Nat} {w w' : World} {e : Ending} (h : DrT rb w e w') : DrT rb w e w'.drew := by
  obtain ⟨A, B, v1, v2, u1, u2, he, hd, hA, hB⟩ := h
  exact ⟨A, B, v1, v2, u1, u2, he, hd.trans (Dr.below (Below.refl _ _).drew), hA.out.stay (fun _ _ _ e => e), hB.out.stay (fun _ _ _ e => e)⟩
/-- append([]T{}, xs...) as a step of a drawn region: whatever the source. -/
theorem stepApp0 {S : Nat → Prop} {t e : TypeId} {sz bytes : Nat} (E : ElemT t e sz bytes) (hby : bytes ≤ 100) {ops : Array Oper} {o : Oper} {a : Act} {K : Act → World → Prop} {Q : Exit → Act → World → Prop} {E' : Prop} (hgd : o.guard = none) (s x : Operand)
    (ho : o.op = .call { callee := .builtin .append, args := #[s, x], argTypes := #[t, t] })
    (base b0 m : Nat) (u : Value) (news : List Value) (w : World) (hs : a.eval s = .slice (some ⟨b0, 0, none⟩) 0 0) (hx : a.eval x = u)
    (hown : w.ownsRow base e sz (.slice (some ⟨b0, 0, none⟩) 0 0) 0 []) (hu : Fl S w u m news) (hl : news.length = m * sz) (h1 : ∀ u ∈ news, u.oneCell' = true) (hn : m ≤ 1000000000) (hbase : base ≤ w.heap.size)
    (h : ∀ v' w', Hid (w'.ownsRow base e sz v' m news) → w.grownBy w' (some b0) → K (a.put o.dst v') w') :
    if Region.wanted o (yielded ops a.tmps) = true then Oper.wp Try.prog o a w K Q else E' := by
  obtain ⟨i, z, hi, hz, h2, h3, h4⟩ := E.inf
  obtain ⟨ad, cap, rfl, hh, hc⟩ := hu
  cases ad with
  | none =>
    have hm : m = 0 := by have := hh.2.2 rfl; have := hh.2.1; omega
    subst hm
    have hcap := hh.2.2 rfl
    subst hcap
    have hnil : news = [] := List.eq_nil_of_length_eq_zero (by simpa using hl)
    subst hnil
    have hw : Region.wanted o (yielded ops a.tmps) = true := by simp [Region.wanted, hgd]
    rw [if_pos hw]
    have hrun := run_append_owned_none (P := Try.prog) (w := w) base t o.type e i sz E.ul hi _ 0 [] hown
    unfold Oper.wp
    simp [execOp, ho, resolve, invoke, builtin, hs, hx, hrun, Result.andThen]
    exact h _ w (Lib.hid hown) (grownRefl _ _)
  | some ad =>
    have hcell : ∀ j u, news[j]? = some u → w.cell? (ad.add j) = some u := by
      intro j u hj
      obtain ⟨hlt, rfl⟩ := List.getElem?_eq_some_iff.1 hj
      obtain ⟨b, off, e, _, c⟩ := hc j hlt
      cases e
      rw [Addr.add_lit]; exact c
    rcases Nat.eq_zero_or_pos m with rfl | hm
    · have hnil : news = [] := List.eq_nil_of_length_eq_zero (by simpa using hl)
      subst hnil
      refine step_append_room (P := Try.prog) hgd s x t ho e i sz E.ul hi h2 b0 0 0 0 hs ad 0 cap [] hx (by simp) hcell h1 (by omega) (by simp) ?_
      rw [setCells_nil]
      exact h _ w (Lib.hid hown) (grownRefl _ _)
    · refine step_append_lies (P := Try.prog) w hgd s x t ho base e i z sz bytes E.ul hi hz h2 h3 h4 E.pos _ 0 [] hs hown ad m cap news hx hl hcell h1 hm ?_ ?_ hbase _ rfl ?_
      · unfold maxLen; omega
      · have : (0 + m) * bytes ≤ 1000000000 * 100 := Nat.mul_le_mul (by omega) hby
        omega
      · intro g cap' w' k1 k2 k3 _
        rw [Nat.zero_add] at k1 ⊢
        exact h _ w' (Lib.hid (by simpa [Hid] using k1)) k2
/-- The second automaton's box: the moves of the first one, marks of its own. -/
structure TB (w : World) (rb p B4 : Nat) (v1 v2 : Value) (D : DfaD) (Bn g0 : Nat) (v8 : Value) (xs : List Bool) (wr : World) : Prop where
  z : TZ w rb p B4 v1 v2 D wr
  kb : wr.heap[Bn]? = some (.cells #[v1, v8] 26 (0, 0))
  own : wr.ownsRow g0 4 1 v8 xs.length (xs.map .bool)
  hB : B4 < g0
  hn : g0 ≤ Bn
  rl : DfaR (fun b => w.heap.size + 2 ≤ b ∧ b < g0) wr v1 v2 D
theorem TB.c0 {w wr : World} {rb p B4 Bn g0 : Nat} {v1 v2 v8 : Value} {D : DfaD} {xs : List Bool} (h : TB w rb p B4 v1 v2 D Bn g0 v8 xs wr) : wr.cell? ⟨Bn, 0, none⟩ = some v1 := (blk2 h.kb).1
theorem TB.c1 {w wr : World} {rb p B4 Bn g0 : Nat} {v1 v2 v8 : Value} {D : DfaD} {xs : List Bool} (h : TB w rb p B4 v1 v2 D Bn g0 v8 xs wr) : wr.cell? ⟨Bn, 1, none⟩ = some v8 := (blk2 h.kb).2.1
theorem TB.dw {w wr w' : World} {rb p p' B4 Bn g0 : Nat} {v1 v2 v8 : Value} {D : DfaD} {xs : List Bool} (h : TB w rb p B4 v1 v2 D Bn g0 v8 xs wr) (hd : Dr rb wr w') (hr : Rdx w' rb p') : TB w rb p' B4 v1 v2 D Bn g0 v8 xs w' :=
  have hl := h.z.lt; have hb := h.hB; have h4 := h.z.hB; have hn := h.hn
  ⟨h.z.dw hd hr, hd.blk h.kb (by omega), hd.own h.own (by omega), h.hB, h.hn, h.rl.stay (hd.kp.mono fun b hb => by show b ≠ rb; omega)⟩
theorem TB.rd {w wr : World} {rb p B4 Bn g0 : Nat} {v1 v2 v8 : Value} {D : DfaD} {xs : List Bool} (h : TB w rb p B4 v1 v2 D Bn g0 v8 xs wr) : DfaR (w.heap.size + 2 ≤ ·) wr v1 v8 (D.1, xs) :=
  have hb := h.hB; have h4 := h.z.hB
  ⟨h.z.r.1, by
    have := (ownFl h.own).fl
    exact this.mono fun b hh => by show w.heap.size + 2 ≤ b; have hh' : g0 ≤ b := hh; omega⟩
theorem TB.mkA {w w2 w8 : World} {rb p B4 : Nat} {v1 v2 v8 : Value} {D : DfaD} {xs : List Bool} (h : TZ w rb p B4 v1 v2 D w2) (hb : Below w2.heap.size w2 w8) (h8 : w8.ownsRow w2.heap.size 4 1 v8 xs.length (xs.map .bool)) :
    ∃ Wn, Wn = w8.alloc (.cells #[v1, v8] 26) ∧ ∃ Bn, Bn = w8.heap.size ∧ Hid (TB w rb p B4 v1 v2 D Bn w2.heap.size v8 xs Wn) := by
  have h4 := (Array.getElem?_eq_some_iff.1 h.k4).1
  have hbn : Below w2.heap.size w2 (w8.alloc (.cells #[v1, v8] 26)) := hb.alloc hb.size _
  exact ⟨_, rfl, _, rfl, h.stay hbn, blkNew _ _ rfl, h8.alloc _, h4, hb.size, h.r.inHeap.stay (kpB hbn)⟩
theorem TB.mkB {w w2 w8 : World} {rb p B4 b : Nat} {v1 v2 v8 x y : Value} {D : DfaD} {xs : List Bool} (h : TZ w rb p B4 v1 v2 D w2) (hb : Below w2.heap.size w2 w8) (h8 : w8.ownsRow w2.heap.size 4 1 v8 xs.length (xs.map .bool))
    (k5 : w8.heap[b]? = some (.cells #[x, y] 26 (0, 0))) (hle : w2.heap.size ≤ b) :
    ∃ Wn, Wn = (w8.setCell ⟨b, 0, none⟩ v1).setCell ⟨b, 1, none⟩ v8 ∧ ∃ Bn, Bn = b ∧ Hid (TB w rb p B4 v1 v2 D Bn w2.heap.size v8 xs Wn) := by
  have h4 := (Array.getElem?_eq_some_iff.1 h.k4).1
  have hbn : Below w2.heap.size w2 ((w8.setCell ⟨b, 0, none⟩ v1).setCell ⟨b, 1, none⟩ v8) := (hb.setCell (p := ⟨b, 0, none⟩) hle _).setCell (p := ⟨b, 1, none⟩) hle _
  have hne := ownNe h8 k5 (by decide)
  exact ⟨_, rfl, _, rfl, h.stay hbn, heap_set (heap_set k5 0 v1) 1 v8, ownSetNe (ownSetNe h8 hne _) hne _, h4, hle, h.r.inHeap.stay (kpB hbn)⟩
theorem TB.flip {w wr : World} {rb p B4 Bn g0 g cap n : Nat} {v1 v2 : Value} {D : DfaD} {xs : List Bool} (h : TB w rb p B4 v1 v2 D Bn g0 (.slice (some ⟨g, 0, none⟩) n cap) xs wr) (hn : n = xs.length) (j : Nat) (x : Bool) :
    TB w rb p B4 v1 v2 D Bn g0 (.slice (some ⟨g, 0, none⟩) n cap) (xs.set j x) (wr.setCell ⟨g, j, none⟩ (.bool x)) := by
  subst hn
  have hge := (World.ownsRow.lt h.own g rfl).1
  have hl := h.z.lt; have hb := h.hB; have h4 := h.z.hB
  obtain ⟨cur, hg, _⟩ := ownCase h.own (b := g) rfl
  have hne : g ≠ Bn := fun e => by
    subst e
    have := h.kb
    rw [hg] at this
    injection this with this
    injection this with _ hx
    exact absurd hx (by decide)
  have hrl := h.rl.stay (w' := wr.setCell ⟨g, j, none⟩ (.bool x)) ((kpSet (b := g)).mono fun b hb => by omega)
  refine ⟨⟨h.z.dr.setCell (by omega) _, h.z.rd.set (by omega) _, hl, blkSet h.z.k2 (by omega), blkSet h.z.k3 (by omega), blkSet h.z.k4 (by omega), h4, hrl.mono fun b hb => hb.1⟩, blkSet h.kb (fun e => hne e.symm), ?_, h.hB, h.hn, hrl⟩
  have := ownSetIn h.own j (.bool x)
  rw [List.length_set]
  simpa [List.map_set] using this
set_option maxHeartbeats 16000000 in
theorem l20Two_c (rb p : Nat) (w : World) (h : Rdx w rb p) (hp : p ≤ 600000) : Calls Try.prog 80 #[.pointer (some ⟨rb, 0, none⟩)] w (DrT rb w) := by
  have hlt0 := h.lt
  obtain ⟨W, hW⟩ : ∃ W, W = (w.alloc (.cells #[.slice none 0 0, .slice none 0 0] 26)).alloc (.cells #[.slice none 0 0, .slice none 0 0] 26) := ⟨_, rfl⟩
  have hb0 : Below w.heap.size w W := by rw [hW]; exact ((Below.refl _ _).alloc (Nat.le_refl _) _).alloc (by simp) _
  have K2 : Hid (W.heap[w.heap.size]? = some (.cells #[.slice none 0 0, .slice none 0 0] 26 (0, 0))) := by rw [hW]; exact blkOld (blkNew _ _ rfl)
  have K3 : Hid (W.heap[w.heap.size + 1]? = some (.cells #[.slice none 0 0, .slice none 0 0] 26 (0, 0))) := by rw [hW]; exact blkNew _ _ (by simp)
  have hz : W.heap.size = w.heap.size + 2 := by rw [hW]; simp
  have HR0 := Lib.hid (h.stay hb0)
  have Hd0 := Lib.hid (Dr.below (rb := rb) hb0)
  have HW := Lib.hid hW; clear hW h hb0
  have Hz := Lib.hid hz; clear hz
  go_enter Try.func80, Try.ntmps80
  go_wp2_with fail
  rw [← HW.out]; clear HW
  refine (l20Dfa_c rb p 16 W HR0.out (by omega) (by omega)).mono ?_
  rintro e w1 ⟨D, v1, v2, p1, rfl, ⟨hp1, hE40⟩, hd1, hr1, hD1⟩
  obtain ⟨aN, cN, aE, cE, rfl, rfl, hnN, hnE⟩ := hD1.out.shapes
  obtain ⟨W1, hW1⟩ : ∃ x, x = w1.alloc (.cells #[.slice aN D.1.length cN, .slice aE D.2.length cE] 26) := ⟨_, rfl⟩
  have HT1 : Hid (TZ w rb p1 w1.heap.size (.slice aN D.1.length cN) (.slice aE D.2.length cE) D W1) := by
    have hb : Below w1.heap.size w1 W1 := by rw [hW1]; exact (Below.refl _ _).alloc (Nat.le_refl _) _
    have hs := hd1.size
    have hz := Hz.out
    exact ⟨(Hd0.out.trans hd1).trans (Dr.below hb), hr1.out.stay hb, hlt0, blkBel hb (hd1.blk K2.out (by omega)), blkBel hb (hd1.blk K3.out (by omega)), by rw [hW1]; exact blkNew _ _ rfl, by omega, (hD1.out.stay (kpB hb)).mono fun b h => by omega⟩
  have HW1 := Lib.hid hW1; clear hW1 hd1 hr1 hD1 K2 K3 HR0 Hd0 Hz
  go_wp2_with fail
  rw [← HW1.out]; clear HW1
  refine (pick_x rb p1 4 W1 HT1.out.rd (by omega)).mono ?_
  rintro e w2 ⟨r, rfl, hr0, hr4, hd2, hr2, hz2⟩
  have HT := Lib.hid (HT1.out.dw hd2 hr2.out)
  obtain ⟨B4, hB4⟩ : ∃ B, B = w1.heap.size := ⟨_, rfl⟩
  rw [← hB4] at HT ⊢
  clear HT1 hd2 hr2 hz2 hB4
  by_cases h0 : r = 0
  · subst h0
    have c0 := HT.out.c0
    have c1 := HT.out.c1
    go_wp2_with fail
    clear c0 c1
    have hBw := HT.out.hB
    have hS : Hid (∀ w', Kp (· = B4) w2 w' → w'.cell? ⟨B4, 0, none⟩ = some (.slice aN D.1.length cN) ∧ w'.cell? ⟨B4, 1, none⟩ = some (.slice aE D.2.length cE)) := fun w' hk => ⟨hk _ _ rfl HT.out.c0, hk _ _ rfl HT.out.c1⟩
    have hk0 : Kp (· = B4) w2 w2.drew := fun _ _ _ e => e
    have HTD : Hid (TZ w rb (p1 + 1) B4 (.slice aN D.1.length cN) (.slice aE D.2.length cE) D w2.drew) := Lib.hid (HT.out.stay ((Below.refl _ _).drew))
    go_region_held3 (fun w' => w'.cell? ⟨B4, 0, none⟩ = some (.slice aN D.1.length cN) ∧ w'.cell? ⟨B4, 1, none⟩ = some (.slice aE D.2.length cE))
      (first | exact hS.out _ (by assumption) | exact hS.out _ (Kp.trans (by assumption) (kpTwo _ _ (by omega))) | exact hS.out _ (Kp.trans (Kp.trans (by assumption) (kpTwo _ _ (by omega))) (kpTwo _ _ (by omega))))
      (first
        | (go_at_call 49; refine (sMinimize_c _ _ D _ HTD.out.r).mono ?_; rintro e w3 ⟨y1, y2, rfl, hb3, hy3⟩; have hk3 : Kp (· = B4) w2 w3 := hk0.trans (kpB hb3); have HT3 := Lib.hid (HTD.out.stay hb3); obtain ⟨q0, q1, q2, q3⟩ := blk2 HT3.out.k2; obtain ⟨r0, r1, r2, r3⟩ := blk2 HT3.out.k3; obtain ⟨M, hM⟩ : ∃ M, M = orNo (okD D) (canon (lgD D)) := ⟨_, rfl⟩; rw [← hM] at hy3; clear hM; obtain ⟨aY, cY, bY, dY, rfl, rfl, _, _⟩ := hy3.out.rd.shapes))
    clear hS hk0 q0 q1 q2 q3 r0 r1 r2 r3
    have hB4l := (Array.getElem?_eq_some_iff.1 HT.out.k4).1
    have k2f := blkSet (c := w.heap.size + 1) (o := 1) (v := .slice bY M.2.length dY) (blkSet (c := w.heap.size + 1) (o := 0) (v := .slice aY M.1.length cY) (heap_set (heap_set HT3.out.k2 0 (.slice aN D.1.length cN)) 1 (.slice aE D.2.length cE)) (by omega)) (by omega)
    have k3f := heap_set (heap_set (blkSet (c := w.heap.size) (o := 1) (v := .slice aE D.2.length cE) (blkSet (c := w.heap.size) (o := 0) (v := .slice aN D.1.length cN) HT3.out.k3 (by omega)) (by omega)) 0 (.slice aY M.1.length cY)) 1 (.slice bY M.2.length dY)
    obtain ⟨f0, f1, f2, f3⟩ := blk2 k2f
    obtain ⟨g0, g1, g2, g3⟩ := blk2 k3f
    clear k2f k3f
    go_wp2
    refine bodyPost_ret (v := .tuple #[.agg #[.slice aN D.1.length cN, .slice aE D.2.length cE], .agg #[.slice aY M.1.length cY, .slice bY M.2.length dY]]) (by simp [results, Try.results80, go_sem, f0, f1, f2, f3, g0, g1, g2, g3]) rfl ?_
    exact DrT.fin hlt0 HT3.out.dr HT3.out.r (hy3.out.rd.mono fun b h => by have h1 : w2.heap.size ≤ b := h.1; omega)
  · by_cases h1 : r = 1
    · subst h1
      have c0 := HT.out.c0
      have c1 := HT.out.c1
      have hBw := HT.out.hB
      have hB4l := (Array.getElem?_eq_some_iff.1 HT.out.k4).1
      obtain ⟨g0, hg0⟩ : ∃ g, g = w2.heap.size := ⟨_, rfl⟩
      have HE : Hid (Bools (w.heap.size + 2 ≤ ·) w2 (.slice aE D.2.length cE) D.2) := HT.out.r.2
      have B1 : Hid (Below w2.heap.size w2 (w2.alloc (.cells #[] 4)).drew) := Lib.hid ((Below.refl _ _).alloc (Nat.le_refl _) _).drew
      have B2 : Hid (∀ o o', Below w2.heap.size w2 ((w2.alloc o).alloc o').drew) := fun o o' => (((Below.refl _ _).alloc (Nat.le_refl _) _).alloc (by simp) _).drew
      have O1 : Hid ((w2.alloc (.cells #[] 4)).ownsRow w2.heap.size 4 1 (.slice (some ⟨w2.heap.size, 0, none⟩) 0 0) 0 []) := Lib.hid (ownLit (w := w2) [] (Nat.le_refl _) (by omega) rfl)
      have O2 : Hid (∀ o, ((w2.alloc (.cells #[] 4)).alloc o).ownsRow w2.heap.size 4 1 (.slice (some ⟨w2.heap.size, 0, none⟩) 0 0) 0 []) := fun o => O1.out.alloc o
      have O3 : Hid (∀ o, ((w2.alloc o).alloc (.cells #[] 4)).ownsRow w2.heap.size 4 1 (.slice (some ⟨w2.heap.size + 1, 0, none⟩) 0 0) 0 []) := fun o => by have := ownLit (w := w2.alloc o) (base := w2.heap.size) (e := 4) (sz := 1) (n := 0) [] (by simp) (by omega) rfl; rw [World.size_alloc] at this; exact this
      have hE9 : D.2.length ≤ 1000000000 := by omega
      go_wp2_with fail
      have hS : Hid (∀ w', Kp (· = B4) w2 w' → w'.cell? ⟨B4, 0, none⟩ = some (.slice aN D.1.length cN) ∧ w'.cell? ⟨B4, 1, none⟩ = some (.slice aE D.2.length cE)) := fun w' hk => ⟨hk _ _ rfl HT.out.c0, hk _ _ rfl HT.out.c1⟩
      have hk0 : Kp (· = B4) w2 w2.drew := fun _ _ _ e => e
      clear c0 c1
      go_region_held3 (fun w' => w'.cell? ⟨B4, 0, none⟩ = some (.slice aN D.1.length cN) ∧ w'.cell? ⟨B4, 1, none⟩ = some (.slice aE D.2.length cE))
        (first | exact hS.out _ (by assumption) | exact hS.out _ (kpB (((Below.refl _ _).alloc (Nat.le_refl _) _).drew)) | exact hS.out _ (kpB (B2.out _ _)) | exact hS.out _ (Kp.trans (by assumption) kpAlloc) | exact hS.out _ (Kp.trans (by assumption) (kpTwo _ _ (by omega))) | exact hS.out _ (Kp.trans (Kp.trans (by assumption) kpAlloc) (kpTwo _ _ (by omega))))
        (first
          | (refine stepApp0 (S := (w.heap.size + 2 ≤ ·)) elBool (by decide) rfl (.tmp 20) (.tmp 22) rfl w2.heap.size _ D.2.length _ (D.2.map .bool) _ rfl rfl (by first | exact O1.out | exact O2.out _ | exact O3.out _) (by first | exact Fl.stay HE.out (kpB B1.out) | exact Fl.stay HE.out (kpB (B2.out _ _))) (by simp) (by intro u hu; obtain ⟨b, _, rfl⟩ := List.mem_map.1 hu; rfl) hE9 (by first | exact B1.out.size | exact (B2.out _ _).size) ?_
             intro v8 w8 h8 hg8
             obtain ⟨a8, c8, rfl, _⟩ := (ownFl h8.out).shape
             have hbel8 : Below w2.heap.size w2 w8 := (by first | exact B1.out.grown hg8 B1.out.size (fun k e => by cases e; omega) | exact (B2.out _ _).grown hg8 (B2.out _ _).size (fun k e => by cases e; omega))
             (first
               | have k5 := Lib.hid (blkGrow (b := w2.heap.size + 1) (ob := .cells #[.slice none 0 0, .slice none 0 0] 26 (0, 0)) hg8 (blkNew _ _ (by simp)) (by simp))
               | have k5 := Lib.hid (blkGrow (b := w2.heap.size) (ob := .cells #[.slice none 0 0, .slice none 0 0] 26 (0, 0)) hg8 (blkOld (blkNew _ _ rfl)) (by simp))
               | skip)
             (first | (have kq := blk2 k5.out; obtain ⟨s0, s1, s2, s3⟩ := kq) | skip)
             have HT8 := Lib.hid (HT.out.stay hbel8)
             have hk8 : Kp (· = B4) w2 w8 := kpB hbel8))
      all_goals (
        first
          | (have kq := TB.mkB HT.out hbel8 h8.out k5.out (by omega); obtain ⟨Wn, hWn, Bn, hBn, HTB⟩ := kq)
          | (have kq := TB.mkA HT.out hbel8 h8.out; obtain ⟨Wn, hWn, Bn, hBn, HTB⟩ := kq)
        rw [← hWn, ← hBn]
        clear hWn hBn hbel8 hg8 h8 HT8 hk8 hS hk0 B1 B2 O1 O2 O3 HE
        by_cases hl0 : D.2.length = 0
        · have hl0D : (D.2.length : Int) ≤ 0 := by omega
          clear hl0
          have c0 := HTB.out.z.c0
          have c1 := HTB.out.z.c1
          have d0 := HTB.out.c0
          have d1 := HTB.out.c1
          go_wp2_with fail
          clear c0 c1 d0 d1
          have hBw := HTB.out.z.hB
          have hBg := HTB.out.hB
          have hBn9 := HTB.out.hn
          have hS : Hid (∀ w', Kp (fun b => w.heap.size + 2 ≤ b) Wn w' → w'.cell? ⟨B4, 0, none⟩ = some (.slice aN D.1.length cN) ∧ w'.cell? ⟨B4, 1, none⟩ = some (.slice aE D.2.length cE) ∧ w'.cell? ⟨Bn, 0, none⟩ = some (.slice aN D.1.length cN) ∧ w'.cell? ⟨Bn, 1, none⟩ = some (.slice a8 D.2.length c8)) := fun w' hk => ⟨hk _ _ hBw HTB.out.z.c0, hk _ _ hBw HTB.out.z.c1, hk _ _ (by show _ ≤ Bn; omega) HTB.out.c0, hk _ _ (by show _ ≤ Bn; omega) HTB.out.c1⟩
          have hS1 : Hid ((Wn.drew).cell? ⟨B4, 0, none⟩ = some (.slice aN D.1.length cN) ∧ (Wn.drew).cell? ⟨B4, 1, none⟩ = some (.slice aE D.2.length cE) ∧ (Wn.drew).cell? ⟨Bn, 0, none⟩ = some (.slice aN D.1.length cN) ∧ (Wn.drew).cell? ⟨Bn, 1, none⟩ = some (.slice a8 D.2.length c8)) := hS.out _ (fun _ _ _ e => e)
          have hS2 : Hid (∀ u v, (((Wn.setCell ⟨w.heap.size, 0, none⟩ u).setCell ⟨w.heap.size, 1, none⟩ v).drew).cell? ⟨B4, 0, none⟩ = some (.slice aN D.1.length cN) ∧ (((Wn.setCell ⟨w.heap.size, 0, none⟩ u).setCell ⟨w.heap.size, 1, none⟩ v).drew).cell? ⟨B4, 1, none⟩ = some (.slice aE D.2.length cE) ∧ (((Wn.setCell ⟨w.heap.size, 0, none⟩ u).setCell ⟨w.heap.size, 1, none⟩ v).drew).cell? ⟨Bn, 0, none⟩ = some (.slice aN D.1.length cN) ∧ (((Wn.setCell ⟨w.heap.size, 0, none⟩ u).setCell ⟨w.heap.size, 1, none⟩ v).drew).cell? ⟨Bn, 1, none⟩ = some (.slice a8 D.2.length c8)) := fun u v => hS.out _ (kpTwoGD u v (by omega))
          have hS4 : Hid (∀ u v x y, (((((Wn.setCell ⟨w.heap.size, 0, none⟩ u).setCell ⟨w.heap.size, 1, none⟩ v).setCell ⟨w.heap.size + 1, 0, none⟩ x).setCell ⟨w.heap.size + 1, 1, none⟩ y).drew).cell? ⟨B4, 0, none⟩ = some (.slice aN D.1.length cN) ∧ (((((Wn.setCell ⟨w.heap.size, 0, none⟩ u).setCell ⟨w.heap.size, 1, none⟩ v).setCell ⟨w.heap.size + 1, 0, none⟩ x).setCell ⟨w.heap.size + 1, 1, none⟩ y).drew).cell? ⟨B4, 1, none⟩ = some (.slice aE D.2.length cE) ∧ (((((Wn.setCell ⟨w.heap.size, 0, none⟩ u).setCell ⟨w.heap.size, 1, none⟩ v).setCell ⟨w.heap.size + 1, 0, none⟩ x).setCell ⟨w.heap.size + 1, 1, none⟩ y).drew).cell? ⟨Bn, 0, none⟩ = some (.slice aN D.1.length cN) ∧ (((((Wn.setCell ⟨w.heap.size, 0, none⟩ u).setCell ⟨w.heap.size, 1, none⟩ v).setCell ⟨w.heap.size + 1, 0, none⟩ x).setCell ⟨w.heap.size + 1, 1, none⟩ y).drew).cell? ⟨Bn, 1, none⟩ = some (.slice a8 D.2.length c8)) := fun u v x y => hS.out _ (kpFourGD u v x y (by omega) (by omega))
          obtain ⟨q0, q1, q2, q3⟩ := blk2 HTB.out.z.k2
          obtain ⟨r0, r1, r2, r3⟩ := blk2 HTB.out.z.k3
          go_region_held3 (fun w' => w'.cell? ⟨B4, 0, none⟩ = some (.slice aN D.1.length cN) ∧ w'.cell? ⟨B4, 1, none⟩ = some (.slice aE D.2.length cE) ∧ w'.cell? ⟨Bn, 0, none⟩ = some (.slice aN D.1.length cN) ∧ w'.cell? ⟨Bn, 1, none⟩ = some (.slice a8 D.2.length c8))
            (first | (with_reducible exact hS1.out) | (with_reducible exact hS2.out _ _) | (with_reducible exact hS4.out _ _ _ _))
            (fail)
          clear hS hS1 hS2 hS4 q0 q1 q2 q3 r0 r1 r2 r3
          have k2f := blkSet (c := w.heap.size + 1) (o := 1) (v := .slice a8 D.2.length c8) (blkSet (c := w.heap.size + 1) (o := 0) (v := .slice aN D.1.length cN) (heap_set (heap_set HTB.out.z.k2 0 (.slice aN D.1.length cN)) 1 (.slice aE D.2.length cE)) (by omega)) (by omega)
          have k3f := heap_set (heap_set (blkSet (c := w.heap.size) (o := 1) (v := .slice aE D.2.length cE) (blkSet (c := w.heap.size) (o := 0) (v := .slice aN D.1.length cN) HTB.out.z.k3 (by omega)) (by omega)) 0 (.slice aN D.1.length cN)) 1 (.slice a8 D.2.length c8)
          obtain ⟨f0, f1, f2, f3⟩ := blk2 k2f
          obtain ⟨g0, g1, g2, g3⟩ := blk2 k3f
          clear k2f k3f
          have hfin := Lib.hid (DrT.fin hlt0 HTB.out.z.dr HTB.out.z.r HTB.out.rd).drew
          go_wp2
          refine bodyPost_ret (v := .tuple #[.agg #[.slice aN D.1.length cN, .slice aE D.2.length cE], .agg #[.slice aN D.1.length cN, .slice a8 D.2.length c8]]) (by simp [results, Try.results80, go_sem, f0, f1, f2, f3, g0, g1, g2, g3]) rfl ?_
          exact hfin.out
        · have hl1 : (0 : Int) < (D.2.length : Int) := by omega
          have hlN : 0 < D.2.length := by omega
          clear hl0
          obtain ⟨g8, hg8e, hcap8⟩ : ∃ g, a8 = some ⟨g, 0, none⟩ ∧ True := by
            obtain ⟨g, cp, e, _, _⟩ := own_some HTB.out.own hlN
            injection e with e1 e2 e3
            exact ⟨g, e1, trivial⟩
          subst hg8e
          clear hcap8
          have c0 := HTB.out.z.c0
          have c1 := HTB.out.z.c1
          have d0 := HTB.out.c0
          have d1 := HTB.out.c1
          go_wp2_with fail
          clear c0 c1 d0 d1
          refine (pick_x rb (p1 + 1) D.2.length Wn HTB.out.z.rd (by omega)).mono ?_
          rintro e w9 ⟨j, rfl, hj0, hj4, hd9, hr9, hz9⟩
          have HT9 := Lib.hid (HTB.out.dw hd9 hr9.out)
          clear hd9 hr9 hz9 HTB
          obtain ⟨jn, rfl⟩ := Int.eq_ofNat_of_zero_le hj0
          have hjn : jn < D.2.length := by omega
          have hjI : (jn : Int) < (D.2.length : Int) := by omega
          obtain ⟨x9, hx9⟩ : ∃ x, w9.cell? ⟨g8, jn, none⟩ = some (.bool x) := by
            have := ownCell HT9.out.own (i := jn) (by simpa using hjn)
            exact ⟨D.2[jn], by rw [this.1]; simp⟩
          have hfz9 : w9.frozen? ⟨g8, jn, none⟩ = false := by
            obtain ⟨cur, hg, _⟩ := ownCase HT9.out.own (b := g8) rfl
            exact blkFz hg jn
          have c0 := HT9.out.z.c0
          have c1 := HT9.out.z.c1
          have d0 := HT9.out.c0
          have d1 := HT9.out.c1
          go_wp2_with fail
          go_still_tail 10, (by kernel_rfl)
          change wpList _ _ _ _ _ w9.drew
          have HT10 := Lib.hid (HT9.out.dw (Dr.below ((Below.refl _ _).drew)) (HT9.out.z.rd.stay ((Below.refl _ _).drew)))
          have hx10 : w9.drew.cell? ⟨g8, jn, none⟩ = some (.bool x9) := hx9
          have hf10 : w9.drew.frozen? ⟨g8, jn, none⟩ = false := hfz9
          clear hx9 hfz9 HT9 c0 c1 d0 d1
          generalize w9.drew = w10 at *
          obtain ⟨Wf, hWf⟩ : ∃ Wf, Wf = w10.setCell ⟨g8, jn, none⟩ (.bool !x9) := ⟨_, rfl⟩
          have HTF : Hid (TB w rb (p1 + 1 + 1) B4 (.slice aN D.1.length cN) (.slice aE D.2.length cE) D Bn w2.heap.size (.slice (some ⟨g8, 0, none⟩) D.2.length c8) (D.2.set jn (!x9)) Wf) := by
            rw [hWf]; exact HT10.out.flip rfl jn (!x9)
          have HWf := Lib.hid hWf; clear hWf
          go_wp2_with fail
          rw [← HWf.out]
          clear HWf HT10 hx10 hf10
          have hBw := HTF.out.z.hB
          have hBg := HTF.out.hB
          have hBn9 := HTF.out.hn
          have hS : Hid (∀ w', Kp (fun b => w.heap.size + 2 ≤ b) Wf w' → w'.cell? ⟨B4, 0, none⟩ = some (.slice aN D.1.length cN) ∧ w'.cell? ⟨B4, 1, none⟩ = some (.slice aE D.2.length cE) ∧ w'.cell? ⟨Bn, 0, none⟩ = some (.slice aN D.1.length cN) ∧ w'.cell? ⟨Bn, 1, none⟩ = some (.slice (some ⟨g8, 0, none⟩) D.2.length c8)) := fun w' hk => ⟨hk _ _ hBw HTF.out.z.c0, hk _ _ hBw HTF.out.z.c1, hk _ _ (by show _ ≤ Bn; omega) HTF.out.c0, hk _ _ (by show _ ≤ Bn; omega) HTF.out.c1⟩
          have hS1 : Hid ((Wf.drew).cell? ⟨B4, 0, none⟩ = some (.slice aN D.1.length cN) ∧ (Wf.drew).cell? ⟨B4, 1, none⟩ = some (.slice aE D.2.length cE) ∧ (Wf.drew).cell? ⟨Bn, 0, none⟩ = some (.slice aN D.1.length cN) ∧ (Wf.drew).cell? ⟨Bn, 1, none⟩ = some (.slice (some ⟨g8, 0, none⟩) D.2.length c8)) := hS.out _ (fun _ _ _ e => e)
          have hS2 : Hid (∀ u v, (((Wf.setCell ⟨w.heap.size, 0, none⟩ u).setCell ⟨w.heap.size, 1, none⟩ v).drew).cell? ⟨B4, 0, none⟩ = some (.slice aN D.1.length cN) ∧ (((Wf.setCell ⟨w.heap.size, 0, none⟩ u).setCell ⟨w.heap.size, 1, none⟩ v).drew).cell? ⟨B4, 1, none⟩ = some (.slice aE D.2.length cE) ∧ (((Wf.setCell ⟨w.heap.size, 0, none⟩ u).setCell ⟨w.heap.size, 1, none⟩ v).drew).cell? ⟨Bn, 0, none⟩ = some (.slice aN D.1.length cN) ∧ (((Wf.setCell ⟨w.heap.size, 0, none⟩ u).setCell ⟨w.heap.size, 1, none⟩ v).drew).cell? ⟨Bn, 1, none⟩ = some (.slice (some ⟨g8, 0, none⟩) D.2.length c8)) := fun u v => hS.out _ (kpTwoGD u v (by omega))
          have hS4 : Hid (∀ u v x y, (((((Wf.setCell ⟨w.heap.size, 0, none⟩ u).setCell ⟨w.heap.size, 1, none⟩ v).setCell ⟨w.heap.size + 1, 0, none⟩ x).setCell ⟨w.heap.size + 1, 1, none⟩ y).drew).cell? ⟨B4, 0, none⟩ = some (.slice aN D.1.length cN) ∧ (((((Wf.setCell ⟨w.heap.size, 0, none⟩ u).setCell ⟨w.heap.size, 1, none⟩ v).setCell ⟨w.heap.size + 1, 0, none⟩ x).setCell ⟨w.heap.size + 1, 1, none⟩ y).drew).cell? ⟨B4, 1, none⟩ = some (.slice aE D.2.length cE) ∧ (((((Wf.setCell ⟨w.heap.size, 0, none⟩ u).setCell ⟨w.heap.size, 1, none⟩ v).setCell ⟨w.heap.size + 1, 0, none⟩ x).setCell ⟨w.heap.size + 1, 1, none⟩ y).drew).cell? ⟨Bn, 0, none⟩ = some (.slice aN D.1.length cN) ∧ (((((Wf.setCell ⟨w.heap.size, 0, none⟩ u).setCell ⟨w.heap.size, 1, none⟩ v).setCell ⟨w.heap.size + 1, 0, none⟩ x).setCell ⟨w.heap.size + 1, 1, none⟩ y).drew).cell? ⟨Bn, 1, none⟩ = some (.slice (some ⟨g8, 0, none⟩) D.2.length c8)) := fun u v x y => hS.out _ (kpFourGD u v x y (by omega) (by omega))
          obtain ⟨q0, q1, q2, q3⟩ := blk2 HTF.out.z.k2
          obtain ⟨r0, r1, r2, r3⟩ := blk2 HTF.out.z.k3
          go_region_held3 (fun w' => w'.cell? ⟨B4, 0, none⟩ = some (.slice aN D.1.length cN) ∧ w'.cell? ⟨B4, 1, none⟩ = some (.slice aE D.2.length cE) ∧ w'.cell? ⟨Bn, 0, none⟩ = some (.slice aN D.1.length cN) ∧ w'.cell? ⟨Bn, 1, none⟩ = some (.slice (some ⟨g8, 0, none⟩) D.2.length c8))
            (first | (with_reducible exact hS1.out) | (with_reducible exact hS2.out _ _) | (with_reducible exact hS4.out _ _ _ _))
            (fail)
          clear hS hS1 hS2 hS4 q0 q1 q2 q3 r0 r1 r2 r3
          have k2f := blkSet (c := w.heap.size + 1) (o := 1) (v := .slice (some ⟨g8, 0, none⟩) D.2.length c8) (blkSet (c := w.heap.size + 1) (o := 0) (v := .slice aN D.1.length cN) (heap_set (heap_set HTF.out.z.k2 0 (.slice aN D.1.length cN)) 1 (.slice aE D.2.length cE)) (by omega)) (by omega)
          have k3f := heap_set (heap_set (blkSet (c := w.heap.size) (o := 1) (v := .slice aE D.2.length cE) (blkSet (c := w.heap.size) (o := 0) (v := .slice aN D.1.length cN) HTF.out.z.k3 (by omega)) (by omega)) 0 (.slice aN D.1.length cN)) 1 (.slice (some ⟨g8, 0, none⟩) D.2.length c8)
          obtain ⟨f0, f1, f2, f3⟩ := blk2 k2f
          obtain ⟨g0, g1, g2, g3⟩ := blk2 k3f
          clear k2f k3f
          have hfin := Lib.hid (DrT.fin hlt0 HTF.out.z.dr HTF.out.z.r HTF.out.rd).drew
          go_wp2
          refine bodyPost_ret (v := .tuple #[.agg #[.slice aN D.1.length cN, .slice aE D.2.length cE], .agg #[.slice aN D.1.length cN, .slice (some ⟨g8, 0, none⟩) D.2.length c8]]) (by simp [results, Try.results80, go_sem, f0, f1, f2, f3, g0, g1, g2, g3]) rfl ?_
          exact hfin.out)
    · have e0 : (r == 0) = false := by simpa using h0
      have e1 : (r == 1) = false := by simpa using h1
      have c0 := HT.out.c0
      have c1 := HT.out.c1
      go_wp2_with fail
      clear c0 c1
      have hBw := HT.out.hB
      have hS : Hid (∀ w', Kp (· = B4) w2 w' → w'.cell? ⟨B4, 0, none⟩ = some (.slice aN D.1.length cN) ∧ w'.cell? ⟨B4, 1, none⟩ = some (.slice aE D.2.length cE)) := fun w' hk => ⟨hk _ _ rfl HT.out.c0, hk _ _ rfl HT.out.c1⟩
      have hk0 : Kp (· = B4) w2 w2.drew := fun _ _ _ e => e
      have HTD : Hid (TZ w rb (p1 + 1) B4 (.slice aN D.1.length cN) (.slice aE D.2.length cE) D w2.drew) := Lib.hid (HT.out.stay ((Below.refl _ _).drew))
      go_region_held3 (fun w' => w'.cell? ⟨B4, 0, none⟩ = some (.slice aN D.1.length cN) ∧ w'.cell? ⟨B4, 1, none⟩ = some (.slice aE D.2.length cE))
        (first | exact hS.out _ (by assumption) | exact hS.out _ (Kp.trans (by assumption) (kpTwo _ _ (by omega))) | exact hS.out _ (Kp.trans (Kp.trans (by assumption) (kpTwo _ _ (by omega))) (kpTwo _ _ (by omega))))
        (first
          | (go_at_call 57; refine (l20Dfa_c rb (p1 + 1) 16 _ HTD.out.rd (by omega) (by omega)).mono ?_; rintro e w3 ⟨M, y1, y2, p3, rfl, ⟨hp3, hM40⟩, hd3, hr3, hD3⟩; have hk3 : Kp (· = B4) w2 w3 := hk0.trans (hd3.kp.mono fun b e => by subst e; show b ≠ rb; omega); have HT3 := Lib.hid (HTD.out.dw hd3 hr3.out); obtain ⟨q0, q1, q2, q3⟩ := blk2 HT3.out.k2; obtain ⟨r0, r1, r2, r3⟩ := blk2 HT3.out.k3; obtain ⟨aY, cY, bY, dY, rfl, rfl, _, _⟩ := hD3.out.shapes))
      clear hS hk0 q0 q1 q2 q3 r0 r1 r2 r3
      have hB4l := (Array.getElem?_eq_some_iff.1 HT.out.k4).1
      have k2f := blkSet (c := w.heap.size + 1) (o := 1) (v := .slice bY M.2.length dY) (blkSet (c := w.heap.size + 1) (o := 0) (v := .slice aY M.1.length cY) (heap_set (heap_set HT3.out.k2 0 (.slice aN D.1.length cN)) 1 (.slice aE D.2.length cE)) (by omega)) (by omega)
      have k3f := heap_set (heap_set (blkSet (c := w.heap.size) (o := 1) (v := .slice aE D.2.length cE) (blkSet (c := w.heap.size) (o := 0) (v := .slice aN D.1.length cN) HT3.out.k3 (by omega)) (by omega)) 0 (.slice aY M.1.length cY)) 1 (.slice bY M.2.length dY)
      obtain ⟨f0, f1, f2, f3⟩ := blk2 k2f
      obtain ⟨g0, g1, g2, g3⟩ := blk2 k3f
      clear k2f k3f
      go_wp2
      refine bodyPost_ret (v := .tuple #[.agg #[.slice aN D.1.length cN, .slice aE D.2.length cE], .agg #[.slice aY M.1.length cY, .slice bY M.2.length dY]]) (by simp [results, Try.results80, go_sem, f0, f1, f2, f3, g0, g1, g2, g3]) rfl ?_
      exact DrT.fin hlt0 HT3.out.dr HT3.out.r (hD3.out.mono fun b h => by have h1 : w2.heap.size ≤ b := h; omega)
theorem RDa2.fin {w W w2 w' : World} {rb : Nat} {A B : DfaD} {v1 v2 u1 u2 : Value} (hW : Below w.heap.size w W) (hg2 : w.heap.size + 2 ≤ W.heap.size) (h2 : Below W.heap.size W w2) (hrb : W.heap.size ≤ rb) (hd : Dr rb w2 w') (hA : DfaR (w2.heap.size ≤ ·) w' v1 v2 A) (hB : DfaR (w2.heap.size ≤ ·) w' u1 u2 B) :
    RDa2 w (.returned (.tuple #[.agg #[v1, v2], .agg #[u1, u2]])) ((((w'.setCell ⟨w.heap.size, 0, none⟩ v1).setCell ⟨w.heap.size, 1, none⟩ v2).setCell ⟨w.heap.size + 1, 0, none⟩ u1).setCell ⟨w.heap.size + 1, 1, none⟩ u2) := by
  have hs2 := h2.size
  have hs := hW.size
  have k : Kp (w2.heap.size ≤ ·) w' ((((w'.setCell ⟨w.heap.size, 0, none⟩ v1).setCell ⟨w.heap.size, 1, none⟩ v2).setCell ⟨w.heap.size + 1, 0, none⟩ u1).setCell ⟨w.heap.size + 1, 1, none⟩ u2) :=
    (((kpSet.mono fun b h => by omega).trans (kpSet.mono fun b h => by omega)).trans (kpSet.mono fun b h => by omega)).trans (kpSet.mono fun b h => by omega)
  have hbel := (hW.trans (h2.mono hs)).trans (hd.bel (by omega) (by omega))
  refine ⟨A, B, v1, v2, u1, u2, rfl, ((((hbel.setCell (p := ⟨w.heap.size, 0, none⟩) (Nat.le_refl _) _).setCell (p := ⟨w.heap.size, 1, none⟩) (Nat.le_refl _) _).setCell (p := ⟨w.heap.size + 1, 0, none⟩) (by show w.heap.size ≤ w.heap.size + 1; omega) _).setCell (p := ⟨w.heap.size + 1, 1, none⟩) (by show w.heap.size ≤ w.heap.size + 1; omega) _), ?_, ?_⟩
  · exact Lib.hid ((hA.stay k).mono fun b h => by omega)
  · exact Lib.hid ((hB.stay k).mono fun b h => by omega)
set_option maxHeartbeats 1000000 in
theorem DrawSameLanguage_c (v : Value) (bs : List UInt8) (w : World) (h : Bytes S w v bs) : Calls Try.prog 37 #[v] w (RDa2 w) := by
  obtain ⟨W, hW⟩ : ∃ W, W = (w.alloc (.cells #[.slice none 0 0, .slice none 0 0] 26)).alloc (.cells #[.slice none 0 0, .slice none 0 0] 26) := ⟨_, rfl⟩
  have Hb0 : Hid (Below w.heap.size w W) := by rw [hW]; exact ((Below.refl _ _).alloc (Nat.le_refl _) _).alloc (by simp) _
  have K2 : Hid (W.heap[w.heap.size]? = some (.cells #[.slice none 0 0, .slice none 0 0] 26 (0, 0))) := by rw [hW]; exact blkOld (blkNew _ _ rfl)
  have K3 : Hid (W.heap[w.heap.size + 1]? = some (.cells #[.slice none 0 0, .slice none 0 0] 26 (0, 0))) := by rw [hW]; exact blkNew _ _ (by simp)
  have hz : Hid (W.heap.size = w.heap.size + 2) := by rw [hW]; simp [Hid]
  have H := Lib.hid (h.stay (kpB Hb0.out)); clear h
  have HW := Lib.hid hW; clear hW
  go_enter Try.func37, Try.ntmps37
  go_wp2_with fail
  rw [← HW.out]
  clear HW
  refine (open_x _ _ W H.out).mono ?_
  rintro e w2 ⟨rb, rfl, hrb, hb2, hr2⟩
  have hz2 := hz.out
  have hs2 := hb2.size
  go_wp2_with fail
  refine (l20Two_c rb 0 w2 hr2.out (by omega)).mono ?_
  rintro e w3 ⟨A, B, v1, v2, u1, u2, rfl, hd3, hA3, hB3⟩
  obtain ⟨aA, cA, bA, dA, rfl, rfl, _, _⟩ := hA3.out.shapes
  obtain ⟨aB, cB, bB, dB, rfl, rfl, _, _⟩ := hB3.out.shapes
  have K23 := Lib.hid (hd3.blk (blkBel hb2 K2.out) (by omega))
  have K33 := Lib.hid (hd3.blk (blkBel hb2 K3.out) (by omega))
  obtain ⟨c0, c1, f0, f1⟩ := blk2 K23.out
  obtain ⟨d0, d1, g0, g1⟩ := blk2 K33.out
  have k2f := blkSet (c := w.heap.size + 1) (o := 1) (v := .slice bB B.2.length dB) (blkSet (c := w.heap.size + 1) (o := 0) (v := .slice aB B.1.length cB) (heap_set (heap_set K23.out 0 (.slice aA A.1.length cA)) 1 (.slice bA A.2.length dA)) (by omega)) (by omega)
  have k3f := heap_set (heap_set (blkSet (c := w.heap.size) (o := 1) (v := .slice bA A.2.length dA) (blkSet (c := w.heap.size) (o := 0) (v := .slice aA A.1.length cA) K33.out (by omega)) (by omega)) 0 (.slice aB B.1.length cB)) 1 (.slice bB B.2.length dB)
  obtain ⟨x0, x1, y0, y1⟩ := blk2 k2f
  obtain ⟨z0, z1, t0, t1⟩ := blk2 k3f
  clear k2f k3f hz2
  go_wp2
  refine bodyPost_ret (v := .tuple #[.agg #[.slice aA A.1.length cA, .slice bA A.2.length dA], .agg #[.slice aB B.1.length cB, .slice bB B.2.length dB]]) (by simp [results, Try.results37, go_sem, x0, x1, y0, y1, z0, z1, t0, t1]) rfl ?_
  exact RDa2.fin Hb0.out (by rw [hz.out]; omega) hb2 hrb hd3 hA3.out hB3.out
set_option maxHeartbeats 1000000 in
theorem DrawFirstExtra_c (v : Value) (bs : List UInt8) (w : World) (h : Bytes S w v bs) : Calls Try.prog 39 #[v] w (RDa2 w) := by
  obtain ⟨W, hW⟩ : ∃ W, W = (w.alloc (.cells #[.slice none 0 0, .slice none 0 0] 26)).alloc (.cells #[.slice none 0 0, .slice none 0 0] 26) := ⟨_, rfl⟩
  have Hb0 : Hid (Below w.heap.size w W) := by rw [hW]; exact ((Below.refl _ _).alloc (Nat.le_refl _) _).alloc (by simp) _
  have K2 : Hid (W.heap[w.heap.size]? = some (.cells #[.slice none 0 0, .slice none 0 0] 26 (0, 0))) := by rw [hW]; exact blkOld (blkNew _ _ rfl)
  have K3 : Hid (W.heap[w.heap.size + 1]? = some (.cells #[.slice none 0 0, .slice none 0 0] 26 (0, 0))) := by rw [hW]; exact blkNew _ _ (by simp)
  have hz : Hid (W.heap.size = w.heap.size + 2) := by rw [hW]; simp [Hid]
  have H := Lib.hid (h.stay (kpB Hb0.out)); clear h
  have HW := Lib.hid hW; clear hW
  go_enter Try.func39, Try.ntmps39
  go_wp2_with fail
  rw [← HW.out]
  clear HW
  refine (open_x _ _ W H.out).mono ?_
  rintro e w2 ⟨rb, rfl, hrb, hb2, hr2⟩
  have hz2 := hz.out
  have hs2 := hb2.size
  go_wp2_with fail
  refine (l20Two_c rb 0 w2 hr2.out (by omega)).mono ?_
  rintro e w3 ⟨A, B, v1, v2, u1, u2, rfl, hd3, hA3, hB3⟩
  obtain ⟨aA, cA, bA, dA, rfl, rfl, _, _⟩ := hA3.out.shapes
  obtain ⟨aB, cB, bB, dB, rfl, rfl, _, _⟩ := hB3.out.shapes
  have K23 := Lib.hid (hd3.blk (blkBel hb2 K2.out) (by omega))
  have K33 := Lib.hid (hd3.blk (blkBel hb2 K3.out) (by omega))
  obtain ⟨c0, c1, f0, f1⟩ := blk2 K23.out
  obtain ⟨d0, d1, g0, g1⟩ := blk2 K33.out
  have k2f := blkSet (c := w.heap.size + 1) (o := 1) (v := .slice bB B.2.length dB) (blkSet (c := w.heap.size + 1) (o := 0) (v := .slice aB B.1.length cB) (heap_set (heap_set K23.out 0 (.slice aA A.1.length cA)) 1 (.slice bA A.2.length dA)) (by omega)) (by omega)
  have k3f := heap_set (heap_set (blkSet (c := w.heap.size) (o := 1) (v := .slice bA A.2.length dA) (blkSet (c := w.heap.size) (o := 0) (v := .slice aA A.1.length cA) K33.out (by omega)) (by omega)) 0 (.slice aB B.1.length cB)) 1 (.slice bB B.2.length dB)
  obtain ⟨x0, x1, y0, y1⟩ := blk2 k2f
  obtain ⟨z0, z1, t0, t1⟩ := blk2 k3f
  clear k2f k3f hz2
  go_wp2
  refine bodyPost_ret (v := .tuple #[.agg #[.slice aA A.1.length cA, .slice bA A.2.length dA], .agg #[.slice aB B.1.length cB, .slice bB B.2.length dB]]) (by simp [results, Try.results39, go_sem, x0, x1, y0, y1, z0, z1, t0, t1]) rfl ?_
  exact RDa2.fin Hb0.out (by rw [hz.out]; omega) hb2 hrb hd3 hA3.out hB3.out
set_option maxHeartbeats 1000000 in
theorem DrawDfaApart_c (v : Value) (bs : List UInt8) (w : World) (h : Bytes S w v bs) : Calls Try.prog 43 #[v] w (RDa2 w) := by
  obtain ⟨W, hW⟩ : ∃ W, W = (w.alloc (.cells #[.slice none 0 0, .slice none 0 0] 26)).alloc (.cells #[.slice none 0 0, .slice none 0 0] 26) := ⟨_, rfl⟩
  have Hb0 : Hid (Below w.heap.size w W) := by rw [hW]; exact ((Below.refl _ _).alloc (Nat.le_refl _) _).alloc (by simp) _
  have K2 : Hid (W.heap[w.heap.size]? = some (.cells #[.slice none 0 0, .slice none 0 0] 26 (0, 0))) := by rw [hW]; exact blkOld (blkNew _ _ rfl)
  have K3 : Hid (W.heap[w.heap.size + 1]? = some (.cells #[.slice none 0 0, .slice none 0 0] 26 (0, 0))) := by rw [hW]; exact blkNew _ _ (by simp)
  have hz : Hid (W.heap.size = w.heap.size + 2) := by rw [hW]; simp [Hid]
  have H := Lib.hid (h.stay (kpB Hb0.out)); clear h
  have HW := Lib.hid hW; clear hW
  go_enter Try.func43, Try.ntmps43
  go_wp2_with fail
  rw [← HW.out]
  clear HW
  refine (open_x _ _ W H.out).mono ?_
  rintro e w2 ⟨rb, rfl, hrb, hb2, hr2⟩
  have hz2 := hz.out
  have hs2 := hb2.size
  go_wp2_with fail
  refine (l20Two_c rb 0 w2 hr2.out (by omega)).mono ?_
  rintro e w3 ⟨A, B, v1, v2, u1, u2, rfl, hd3, hA3, hB3⟩
  obtain ⟨aA, cA, bA, dA, rfl, rfl, _, _⟩ := hA3.out.shapes
  obtain ⟨aB, cB, bB, dB, rfl, rfl, _, _⟩ := hB3.out.shapes
  have K23 := Lib.hid (hd3.blk (blkBel hb2 K2.out) (by omega))
  have K33 := Lib.hid (hd3.blk (blkBel hb2 K3.out) (by omega))
  obtain ⟨c0, c1, f0, f1⟩ := blk2 K23.out
  obtain ⟨d0, d1, g0, g1⟩ := blk2 K33.out
  have k2f := blkSet (c := w.heap.size + 1) (o := 1) (v := .slice bB B.2.length dB) (blkSet (c := w.heap.size + 1) (o := 0) (v := .slice aB B.1.length cB) (heap_set (heap_set K23.out 0 (.slice aA A.1.length cA)) 1 (.slice bA A.2.length dA)) (by omega)) (by omega)
  have k3f := heap_set (heap_set (blkSet (c := w.heap.size) (o := 1) (v := .slice bA A.2.length dA) (blkSet (c := w.heap.size) (o := 0) (v := .slice aA A.1.length cA) K33.out (by omega)) (by omega)) 0 (.slice aB B.1.length cB)) 1 (.slice bB B.2.length dB)
  obtain ⟨x0, x1, y0, y1⟩ := blk2 k2f
  obtain ⟨z0, z1, t0, t1⟩ := blk2 k3f
  clear k2f k3f hz2
  go_wp2
  refine bodyPost_ret (v := .tuple #[.agg #[.slice aA A.1.length cA, .slice bA A.2.length dA], .agg #[.slice aB B.1.length cB, .slice bB B.2.length dB]]) (by simp [results, Try.results43, go_sem, x0, x1, y0, y1, z0, z1, t0, t1]) rfl ?_
  exact RDa2.fin Hb0.out (by rw [hz.out]; omega) hb2 hrb hd3 hA3.out hB3.out
set_option maxHeartbeats 1000000 in
theorem DrawDfaLess_c (v : Value) (bs : List UInt8) (w : World) (h : Bytes S w v bs) : Calls Try.prog 52 #[v] w (RDa2 w) := by
  obtain ⟨W, hW⟩ : ∃ W, W = (w.alloc (.cells #[.slice none 0 0, .slice none 0 0] 26)).alloc (.cells #[.slice none 0 0, .slice none 0 0] 26) := ⟨_, rfl⟩
  have Hb0 : Hid (Below w.heap.size w W) := by rw [hW]; exact ((Below.refl _ _).alloc (Nat.le_refl _) _).alloc (by simp) _
  have K2 : Hid (W.heap[w.heap.size]? = some (.cells #[.slice none 0 0, .slice none 0 0] 26 (0, 0))) := by rw [hW]; exact blkOld (blkNew _ _ rfl)
  have K3 : Hid (W.heap[w.heap.size + 1]? = some (.cells #[.slice none 0 0, .slice none 0 0] 26 (0, 0))) := by rw [hW]; exact blkNew _ _ (by simp)
  have hz : Hid (W.heap.size = w.heap.size + 2) := by rw [hW]; simp [Hid]
  have H := Lib.hid (h.stay (kpB Hb0.out)); clear h
  have HW := Lib.hid hW; clear hW
  go_enter Try.func52, Try.ntmps52
  go_wp2_with fail
  rw [← HW.out]
  clear HW
  refine (open_x _ _ W H.out).mono ?_
  rintro e w2 ⟨rb, rfl, hrb, hb2, hr2⟩
  have hz2 := hz.out
  have hs2 := hb2.size
  go_wp2_with fail
  refine (l20Two_c rb 0 w2 hr2.out (by omega)).mono ?_
  rintro e w3 ⟨A, B, v1, v2, u1, u2, rfl, hd3, hA3, hB3⟩
  obtain ⟨aA, cA, bA, dA, rfl, rfl, _, _⟩ := hA3.out.shapes
  obtain ⟨aB, cB, bB, dB, rfl, rfl, _, _⟩ := hB3.out.shapes
  have K23 := Lib.hid (hd3.blk (blkBel hb2 K2.out) (by omega))
  have K33 := Lib.hid (hd3.blk (blkBel hb2 K3.out) (by omega))
  obtain ⟨c0, c1, f0, f1⟩ := blk2 K23.out
  obtain ⟨d0, d1, g0, g1⟩ := blk2 K33.out
  have k2f := blkSet (c := w.heap.size + 1) (o := 1) (v := .slice bB B.2.length dB) (blkSet (c := w.heap.size + 1) (o := 0) (v := .slice aB B.1.length cB) (heap_set (heap_set K23.out 0 (.slice aA A.1.length cA)) 1 (.slice bA A.2.length dA)) (by omega)) (by omega)
  have k3f := heap_set (heap_set (blkSet (c := w.heap.size) (o := 1) (v := .slice bA A.2.length dA) (blkSet (c := w.heap.size) (o := 0) (v := .slice aA A.1.length cA) K33.out (by omega)) (by omega)) 0 (.slice aB B.1.length cB)) 1 (.slice bB B.2.length dB)
  obtain ⟨x0, x1, y0, y1⟩ := blk2 k2f
  obtain ⟨z0, z1, t0, t1⟩ := blk2 k3f
  clear k2f k3f hz2
  go_wp2
  refine bodyPost_ret (v := .tuple #[.agg #[.slice aA A.1.length cA, .slice bA A.2.length dA], .agg #[.slice aB B.1.length cB, .slice bB B.2.length dB]]) (by simp [results, Try.results52, go_sem, x0, x1, y0, y1, z0, z1, t0, t1]) rfl ?_
  exact RDa2.fin Hb0.out (by rw [hz.out]; omega) hb2 hrb hd3 hA3.out hB3.out
set_option maxHeartbeats 1000000 in
theorem DrawDfaEither_c (v : Value) (bs : List UInt8) (w : World) (h : Bytes S w v bs) : Calls Try.prog 55 #[v] w (RDa2 w) := by
  obtain ⟨W, hW⟩ : ∃ W, W = (w.alloc (.cells #[.slice none 0 0, .slice none 0 0] 26)).alloc (.cells #[.slice none 0 0, .slice none 0 0] 26) := ⟨_, rfl⟩
  have Hb0 : Hid (Below w.heap.size w W) := by rw [hW]; exact ((Below.refl _ _).alloc (Nat.le_refl _) _).alloc (by simp) _
  have K2 : Hid (W.heap[w.heap.size]? = some (.cells #[.slice none 0 0, .slice none 0 0] 26 (0, 0))) := by rw [hW]; exact blkOld (blkNew _ _ rfl)
  have K3 : Hid (W.heap[w.heap.size + 1]? = some (.cells #[.slice none 0 0, .slice none 0 0] 26 (0, 0))) := by rw [hW]; exact blkNew _ _ (by simp)
  have hz : Hid (W.heap.size = w.heap.size + 2) := by rw [hW]; simp [Hid]
  have H := Lib.hid (h.stay (kpB Hb0.out)); clear h
  have HW := Lib.hid hW; clear hW
  go_enter Try.func55, Try.ntmps55
  go_wp2_with fail
  rw [← HW.out]
  clear HW
  refine (open_x _ _ W H.out).mono ?_
  rintro e w2 ⟨rb, rfl, hrb, hb2, hr2⟩
  have hz2 := hz.out
  have hs2 := hb2.size
  go_wp2_with fail
  refine (l20Two_c rb 0 w2 hr2.out (by omega)).mono ?_
  rintro e w3 ⟨A, B, v1, v2, u1, u2, rfl, hd3, hA3, hB3⟩
  obtain ⟨aA, cA, bA, dA, rfl, rfl, _, _⟩ := hA3.out.shapes
  obtain ⟨aB, cB, bB, dB, rfl, rfl, _, _⟩ := hB3.out.shapes
  have K23 := Lib.hid (hd3.blk (blkBel hb2 K2.out) (by omega))
  have K33 := Lib.hid (hd3.blk (blkBel hb2 K3.out) (by omega))
  obtain ⟨c0, c1, f0, f1⟩ := blk2 K23.out
  obtain ⟨d0, d1, g0, g1⟩ := blk2 K33.out
  have k2f := blkSet (c := w.heap.size + 1) (o := 1) (v := .slice bB B.2.length dB) (blkSet (c := w.heap.size + 1) (o := 0) (v := .slice aB B.1.length cB) (heap_set (heap_set K23.out 0 (.slice aA A.1.length cA)) 1 (.slice bA A.2.length dA)) (by omega)) (by omega)
  have k3f := heap_set (heap_set (blkSet (c := w.heap.size) (o := 1) (v := .slice bA A.2.length dA) (blkSet (c := w.heap.size) (o := 0) (v := .slice aA A.1.length cA) K33.out (by omega)) (by omega)) 0 (.slice aB B.1.length cB)) 1 (.slice bB B.2.length dB)
  obtain ⟨x0, x1, y0, y1⟩ := blk2 k2f
  obtain ⟨z0, z1, t0, t1⟩ := blk2 k3f
  clear k2f k3f hz2
  go_wp2
  refine bodyPost_ret (v := .tuple #[.agg #[.slice aA A.1.length cA, .slice bA A.2.length dA], .agg #[.slice aB B.1.length cB, .slice bB B.2.length dB]]) (by simp [results, Try.results55, go_sem, x0, x1, y0, y1, z0, z1, t0, t1]) rfl ?_
  exact RDa2.fin Hb0.out (by rw [hz.out]; omega) hb2 hrb hd3 hA3.out hB3.out
end Go.Proofs.Ytebcnamfpajneaa
