/- Automata drawn. -/
import Derived.Deep.RegionHeld3
import Derived.Test.YtcbhfopabgiiiaaMke
import Derived.Test.YtcbhfopabgiiiaaGO
import Derived.Test.YtcbhfopabgiiiaaGB
set_option linter.unusedSimpArgs false
set_option linter.unusedVariables false
set_option linter.unusedSectionVars false
namespace Go.Proofs.Ytcbhfopabgiiiaa
open Go.RowKit
set_option maxRecDepth 100000
variable {S T : Nat → Prop}
theorem BS.re {base : Nat} {W : World} {B4 : Nat} {rs : List (Value × List Int)} {es : List Bool} {vN vE : Value} {w : World} (h : BS base W B4 rs es vN vE w) : BS base w B4 rs es vN vE w :=
  ⟨Below.refl _ _, h.size, h.h4, h.b4, h.nx, h.en, h.rw, h.inj⟩
/-- The automaton is drawn; the reader stands at place p. -/
structure DX (w0 : World) (rb p : Nat) (rs : List (Value × List Int)) (es : List Bool) (vN vE : Value) (wr : World) : Prop where
  dr : Dr rb w0 wr
  rd : Rdx wr rb p
  bs : BS (w0.heap.size + 1) wr (w0.heap.size + 1) rs es vN vE wr
  k4 : wr.heap[w0.heap.size]? = some (.cells #[.slice none 0 0, .slice none 0 0] 26 (0, 0))
  lt : rb < w0.heap.size
section
variable {w0 wr w' : World} {rb p p' : Nat} {rs : List (Value × List Int)} {es : List Bool} {vN vE : Value}
theorem DX.dw (h : DX w0 rb p rs es vN vE wr) (hd : Dr rb wr w') (hr : Rdx w' rb p') : DX w0 rb p' rs es vN vE w' :=
  have hl := h.lt
  ⟨h.dr.trans hd, hr, ⟨Below.refl _ _, Nat.le_trans h.bs.size hd.size, h.bs.h4, hd.blk h.bs.b4 (by omega), hd.own h.bs.nx (by omega), hd.own h.bs.en (by omega), fun p hp => ⟨(h.bs.rw p hp).1, hd.own (h.bs.rw p hp).2 (by omega)⟩, h.bs.inj⟩, hd.blk h.k4 (by omega), h.lt⟩
theorem DX.stay (h : DX w0 rb p rs es vN vE wr) (hb : Below wr.heap.size wr w') : DX w0 rb p rs es vN vE w' :=
  ⟨h.dr.trans (Dr.below hb), h.rd.stay hb, (h.bs.stay hb).re, blkBel hb h.k4, h.lt⟩
theorem DX.grow (h : DX w0 rb p rs es vN vE wr) {u : Value} {n : Nat} {xs : List Value} (hu : wr.ownsRow (w0.heap.size + 1) 3 1 u n xs) (hg : wr.grownBy w' u.ownBlock) (hne : ∀ p ∈ rs, p.1.ownBlock ≠ u.ownBlock) : DX w0 rb p rs es vN vE w' :=
  have hl := h.lt
  have hB : ∀ b, u.ownBlock = some b → w0.heap.size + 1 ≤ b := fun b hb => (World.ownsRow.lt hu b hb).1
  ⟨h.dr.grown hg fun b hb => by have := hB b hb; omega, h.rd.grow hg fun b hb => by have := hB b hb; omega, (h.bs.grow hu hg hne).re, blkGrow hg h.k4 (fun e => by have := hB _ e.symm; omega), h.lt⟩
theorem DX.row (h : DX w0 rb p rs es vN vE wr) {u : Value} {r : List Int} (hr : 0 < r.length) (hu : OwI wr (w0.heap.size + 1) u r) (hne : ∀ p ∈ rs, p.1.ownBlock ≠ u.ownBlock) {vN' : Value} (hg : wr.grownBy w' vN.ownBlock)
    (ho : w'.ownsRow (w0.heap.size + 1) 39 1 vN' (rs.length + 1) (rs.map (·.1) ++ [u])) : DX w0 rb p (rs ++ [(u, r)]) es vN' vE (w'.setCell ⟨w0.heap.size + 1, 0, none⟩ vN') :=
  have hl := h.lt
  have hB : ∀ b, vN.ownBlock = some b → w0.heap.size + 1 ≤ b := fun b hb => (World.ownsRow.lt h.bs.nx b hb).1
  ⟨(h.dr.grown hg fun b hb => by have := hB b hb; omega).setCell (by omega) _, (h.rd.grow hg fun b hb => by have := hB b hb; omega).set (by omega) _, (h.bs.row hr hu hne hg ho).re, blkSet (blkGrow hg h.k4 (fun e => by have := hB _ e.symm; omega)) (by omega), h.lt⟩
theorem DX.mark (h : DX w0 rb p rs es vN vE wr) {x : Bool} {vE' : Value} (hg : wr.grownBy w' vE.ownBlock) (ho : w'.ownsRow (w0.heap.size + 1) 4 1 vE' (es.length + 1) (es.map .bool ++ [.bool x])) :
    DX w0 rb p rs (es ++ [x]) vN vE' (w'.setCell ⟨w0.heap.size + 1, 1, none⟩ vE') :=
  have hl := h.lt
  have hB : ∀ b, vE.ownBlock = some b → w0.heap.size + 1 ≤ b := fun b hb => (World.ownsRow.lt h.bs.en b hb).1
  ⟨(h.dr.grown hg fun b hb => by have := hB b hb; omega).setCell (by omega) _, (h.rd.grow hg fun b hb => by have := hB b hb; omega).set (by omega) _, (h.bs.mark hg ho).re, blkSet (blkGrow hg h.k4 (fun e => by have := hB _ e.symm; omega)) (by omega), h.lt⟩
end
/-- The automaton lies in its box; the reader stands at place at most p. -/
def DZ (w0 : World) (rb P : Nat) (wr : World) : Prop := ∃ (p : Nat) (D : DfaD) (vN vE : Value), p ≤ P ∧ Dr rb w0 wr ∧ Hid (Rdx wr rb p) ∧ Hid (wr.heap[w0.heap.size]? = some (.cells #[.slice none 0 0, .slice none 0 0] 26 (0, 0))) ∧ Hid (wr.heap[w0.heap.size + 1]? = some (.cells #[vN, vE] 26 (0, 0))) ∧
  Hid (DfaR (w0.heap.size + 2 ≤ ·) wr vN vE D) ∧ (1 ≤ D.1.length ∧ D.1.length ≤ 40) ∧ (1 ≤ D.2.length ∧ D.2.length ≤ 40)
theorem fl_tail {S : Nat → Prop} {w : World} {a : Option Addr} {n cap : Nat} {cs : List Value} (h : Fl S w (.slice a n cap) n cs) (hl : cs.length = n) (hn : 1 ≤ n) : Fl S w (.slice (Option.map (fun x => { block := x.block, off := x.off + 1 }) a) (n - 1) (cap - 1)) (n - 1) (cs.drop 1) := by
  obtain ⟨a', cap', e, hh, hc⟩ := h
  cases e
  refine ⟨_, _, rfl, ⟨by have := hh.1; omega, by have := hh.2.1; omega, fun e => ?_⟩, fun i hi => ?_⟩
  · cases a with
    | none => have := hh.2.2 rfl; omega
    | some a => cases e
  · rw [List.length_drop] at hi
    obtain ⟨b, off, e, s, c⟩ := hc (i + 1) (by omega)
    subst e
    refine ⟨b, off + 1, rfl, s, ?_⟩
    rw [List.getElem_drop, show off + 1 + i = off + (i + 1) by omega]
    simpa [Nat.add_comm] using c
theorem fl_tail0 {S : Nat → Prop} {w : World} {a : Option Addr} {n : Nat} {cs : List Value} (h : Fl S w (.slice a n 1) n cs) (hl : cs.length = n) (hn : 1 ≤ n) : Fl S w (.slice a (n - 1) 0) (n - 1) (cs.drop 1) := by
  obtain ⟨a', cap', e, hh, hc⟩ := h
  cases e
  have := hh.2.1
  obtain rfl : n = 1 := by omega
  exact ⟨_, _, rfl, ⟨by simp, by simp, fun _ => rfl⟩, fun i hi => by rw [List.length_drop] at hi; omega⟩
theorem cons_dfa {S : Nat → Prop} {w : World} {v u vE : Value} {row : List Int} {vs : List Value} {D : DfaD} {n : Nat} (ho : Fl S w v n (u :: vs.drop 1)) (hn : n = 1 + (D.1.length - 1)) (hu : Ints S w u row) (hvs : vs.length = D.1.length)
    (hr : ∀ i (h : i < D.1.length), Ints S w (vs.getD i undef) D.1[i]) (he : Bools S w vE D.2) : DfaR S w v vE (row :: D.1.drop 1, D.2) := by
  refine ⟨⟨u :: vs.drop 1, ?_, by simp [hvs], fun i hi => ?_⟩, he⟩
  · rw [hn] at ho
    rw [List.length_cons, List.length_drop, Nat.add_comm]
    exact ho
  · cases i with
    | zero => exact hu
    | succ i =>
      have h1 : i + 1 < D.1.length := by simp at hi; omega
      have := hr (i + 1) h1
      simp only [List.getElem_cons_succ, List.getElem_drop]
      rw [show (u :: vs.drop 1).getD (i + 1) undef = vs.getD (i + 1) undef by simp [List.getD, Nat.add_comm]]
      simpa [Nat.add_comm] using this
theorem ints_one {S : Nat → Prop} {w : World} {v : Value} {x : List Int} (h : Ints S w v x) : v.oneCell' = true := by obtain ⟨a, c, rfl, _⟩ := h.shape; rfl
theorem rows_one {S : Nat → Prop} {w : World} {vs : List Value} {x : List (List Int)} (hl : vs.length = x.length) (h : ∀ i (hi : i < x.length), Ints S w (vs.getD i undef) x[i]) : ∀ u ∈ vs.drop 1, u.oneCell' = true := by
  intro u hu
  obtain ⟨i, hi, rfl⟩ := List.getElem_of_mem (List.mem_of_mem_drop hu)
  have := h i (by omega)
  rw [show vs.getD i undef = vs[i] by simp [List.getD, hi]] at this
  exact ints_one this
theorem pickTwo {rb jn : Nat} {w4 w5 : World} {n : Int} (h : Kp (· ≠ rb) (w4.alloc (.cells #[.int .i64 (-1), .int .i64 n] 3)) w5) (hj : jn < 2) (hne : rb ≠ w4.heap.size) : ∃ y : Int, w5.cell? ⟨w4.heap.size, jn, none⟩ = some (.int .i64 y) := by
  have hcell : ∀ (j : Nat) (v : Value), #[Value.int .i64 (-1), .int .i64 n][j]? = some v → w5.cell? ⟨w4.heap.size, j, none⟩ = some v :=
    fun j v h' => h _ _ (by show w4.heap.size ≠ rb; omega) (by rw [World.cell?_alloc_mark]; exact h')
  rcases (by omega : jn = 0 ∨ jn = 1) with rfl | rfl
  · exact ⟨_, hcell 0 _ rfl⟩
  · exact ⟨_, hcell 1 _ rfl⟩
theorem litRow2 {w5 : World} {base : Nat} {y : Int} (hb : base ≤ w5.heap.size) : ((w5.alloc (.cells #[.int .i64 0, .int .i64 0, .int .i64 y] 3)).alloc (.cells #[.slice (some ⟨w5.heap.size, 0, none⟩) 3 3] 39)).ownsRow base 39 1 (.slice (some ⟨w5.heap.size + 1, 0, none⟩) 1 1) 1 [.slice (some ⟨w5.heap.size, 0, none⟩) 3 3] :=
  ⟨rfl, .inr ⟨w5.heap.size + 1, 1, _, rfl, by omega, blkNew _ _ (by simp), Nat.le_refl _, by unfold maxLen; omega, by simp, by simp⟩⟩
theorem litBel2 {w5 : World} (o o' : Obj) : Below w5.heap.size w5 ((w5.alloc o).alloc o') := ((Below.refl _ _).alloc (Nat.le_refl _) _).alloc (by simp) _
/-- An automaton was drawn. -/
def DrD (rb p c : Nat) (w : World) (e : Ending) (w' : World) : Prop := ∃ (D : DfaD) (v1 v2 : Value) (p' : Nat), e = .returned (.agg #[v1, v2]) ∧ (p' ≤ p + c ∧ D.2.length ≤ 40) ∧ Dr rb w w' ∧ Hid (Rdx w' rb p') ∧ Hid (DfaR (w.heap.size ≤ ·) w' v1 v2 D)
theorem DrD.fin {rb p p' c : Nat} {w wx : World} {D : DfaD} {v1 v2 : Value} (hp : p' ≤ p + c) (hE : D.2.length ≤ 40) (hl : rb < w.heap.size) (hd : Dr rb w wx) (hr : Rdx wx rb p') (h : DfaR (w.heap.size + 1 ≤ ·) wx v1 v2 D) :
    DrD rb p c w (.returned (.agg #[v1, v2])) ((wx.setCell ⟨w.heap.size, 0, none⟩ v1).setCell ⟨w.heap.size, 1, none⟩ v2) := by
  have k1 : Kp (· ≠ w.heap.size) wx ((wx.setCell ⟨w.heap.size, 0, none⟩ v1).setCell ⟨w.heap.size, 1, none⟩ v2) := kpSet.trans kpSet
  exact ⟨D, v1, v2, p', rfl, ⟨hp, hE⟩, (hd.setCell (Nat.le_refl _) _).setCell (Nat.le_refl _) _, Lib.hid ((hr.set hl _).set hl _), Lib.hid ((h.stay (k1.mono fun b h => by omega)).mono fun b h => by omega)⟩
/-- What is known ahead of the append. -/
structure RB25 (w WB : World) (rb p L : Nat) (D : DfaD) (vs : List Value) (vN vE VV : Value) (y : Int) : Prop where
  db : Dr rb w WB
  rd : Rdx WB rb p
  sz : w.heap.size + 2 ≤ WB.heap.size
  hL : w.heap.size + 2 ≤ L
  own : WB.ownsRow (w.heap.size + 2) 39 1 (.slice (some ⟨L + 1, 0, none⟩) 1 1) 1 [.slice (some ⟨L, 0, none⟩) 3 3]
  tl : Fl (w.heap.size + 2 ≤ ·) WB VV (D.1.length - 1) (vs.drop 1)
  f3 : ∀ i (hi : i < D.1.length), Ints (fun b => w.heap.size + 2 ≤ b ∧ b ≠ L + 1) WB (vs.getD i undef) D.1[i]
  he : Bools (fun b => w.heap.size + 2 ≤ b ∧ b ≠ L + 1) WB vE D.2
  hu : Ints (fun b => w.heap.size + 2 ≤ b ∧ b ≠ L + 1) WB (.slice (some ⟨L, 0, none⟩) 3 3) [0, 0, y]
  k5 : WB.heap[w.heap.size + 1]? = some (.cells #[vN, vE] 26 (0, 0))
  k4 : WB.heap[w.heap.size]? = some (.cells #[.slice none 0 0, .slice none 0 0] 26 (0, 0))
theorem rb25 {w w4 wx : World} {rb p L : Nat} {D : DfaD} {vs : List Value} {vN vE VV : Value} {y : Int} (hl : rb < w.heap.size) (hdr : Dr rb w w4) (hx : Dr rb w4 wx) (hr : Rdx wx rb p) (hL : wx.heap.size = L) (h2 : w.heap.size + 2 ≤ w4.heap.size)
    (tl : Fl (w.heap.size + 2 ≤ ·) w4 VV (D.1.length - 1) (vs.drop 1)) (f3 : ∀ i (hi : i < D.1.length), Ints (w.heap.size + 2 ≤ ·) w4 (vs.getD i undef) D.1[i]) (he : Bools (w.heap.size + 2 ≤ ·) w4 vE D.2)
    (k5 : w4.heap[w.heap.size + 1]? = some (.cells #[vN, vE] 26 (0, 0))) (k4 : w4.heap[w.heap.size]? = some (.cells #[.slice none 0 0, .slice none 0 0] 26 (0, 0))) :
    RB25 w ((wx.alloc (.cells #[.int .i64 0, .int .i64 0, .int .i64 y] 3)).alloc (.cells #[.slice (some ⟨L, 0, none⟩) 3 3] 39)) rb p L D vs vN vE VV y := by
  subst hL
  have hs := hx.size
  have hB := litBel2 (w5 := wx) (.cells #[.int .i64 0, .int .i64 0, .int .i64 y] 3) (.cells #[.slice (some ⟨wx.heap.size, 0, none⟩) 3 3] 39)
  have hk : Kp (fun b => w.heap.size + 2 ≤ b) w4 ((wx.alloc (.cells #[.int .i64 0, .int .i64 0, .int .i64 y] 3)).alloc (.cells #[.slice (some ⟨wx.heap.size, 0, none⟩) 3 3] 39)) := (hx.kp.mono fun b h => by show b ≠ rb; omega).trans (kpB hB)
  have hk' : Kp (fun b => (w.heap.size + 2 ≤ b) ∧ b < w4.heap.size) w4 ((wx.alloc (.cells #[.int .i64 0, .int .i64 0, .int .i64 y] 3)).alloc (.cells #[.slice (some ⟨wx.heap.size, 0, none⟩) 3 3] 39)) := hk.mono fun b h => h.1
  exact ⟨(hdr.trans hx).trans (Dr.below hB), hr.stay hB, by simp; omega, by omega, litRow2 (by omega), Fl.stay tl hk,
    fun i hi => (Fl.stay (Fl.inHeap (f3 i hi)) hk').mono fun b h => ⟨h.1, by omega⟩, (Fl.stay (Fl.inHeap he) hk').mono fun b h => ⟨h.1, by omega⟩,
    ownFlS (base := 0) (e := 3) (sz := 1) ⟨rfl, .inr ⟨wx.heap.size, 3, _, rfl, by omega, blkOld (blkNew _ _ rfl), Nat.le_refl _, by unfold maxLen; omega, by simp, by simp⟩⟩ (fun b h => by cases h; exact ⟨by show w.heap.size + 2 ≤ wx.heap.size; omega, by show wx.heap.size ≠ wx.heap.size + 1; omega⟩),
    blkBel hB (hx.blk k5 (by omega)), blkBel hB (hx.blk k4 (by omega))⟩
theorem pickTwo2 {jn : Nat} {w5 : World} {n : Int} (hj : jn < 2) : ∃ y : Int, (w5.alloc (.cells #[.int .i64 (-1), .int .i64 n] 3)).cell? ⟨w5.heap.size, jn, none⟩ = some (.int .i64 y) := by
  rcases (by omega : jn = 0 ∨ jn = 1) with rfl | rfl
  · exact ⟨-1, by rw [World.cell?_alloc_mark]; rfl⟩
  · exact ⟨n, by rw [World.cell?_alloc_mark]; rfl⟩
theorem tail_dfa {rb p p' c Lb n8 : Nat} {w WB w8 : World} {D : DfaD} {v8 vE u : Value} {vs : List Value} {row : List Int} (hp : p' ≤ p + c) (hE : D.2.length ≤ 40) (hl : rb < w.heap.size) (hdB : Dr rb w WB) (hrB : Rdx WB rb p') (hLb : w.heap.size + 2 ≤ Lb)
    (hvs : vs.length = D.1.length) (hr : ∀ i (h : i < D.1.length), Ints (fun b => w.heap.size + 2 ≤ b ∧ b ≠ Lb) WB (vs.getD i undef) D.1[i]) (he : Bools (fun b => w.heap.size + 2 ≤ b ∧ b ≠ Lb) WB vE D.2) (hu : Ints (fun b => w.heap.size + 2 ≤ b ∧ b ≠ Lb) WB u row)
    (h8 : w8.ownsRow (w.heap.size + 2) 39 1 v8 n8 ([u] ++ vs.drop 1)) (hn8 : n8 = 1 + (D.1.length - 1)) (hg8 : WB.grownBy w8 (some Lb)) :
    DrD rb p c w (.returned (.agg #[v8, vE])) (((w8.setCell ⟨w.heap.size + 1, 0, none⟩ v8).setCell ⟨w.heap.size, 0, none⟩ v8).setCell ⟨w.heap.size, 1, none⟩ vE) := by
  have hk : Kp (fun b => w.heap.size + 2 ≤ b ∧ b ≠ Lb) WB (w8.setCell ⟨w.heap.size + 1, 0, none⟩ v8) :=
    ((kpG hg8).mono fun b h e => by injection e with e; exact h.2 e).trans ((kpSet (b := w.heap.size + 1)).mono fun b h => by omega)
  have hk8 : Kp (w.heap.size + 2 ≤ ·) w8 (w8.setCell ⟨w.heap.size + 1, 0, none⟩ v8) := (kpSet (b := w.heap.size + 1)).mono fun b h => by omega
  refine DrD.fin (D := (row :: D.1.drop 1, D.2)) hp hE hl ((hdB.grown hg8 fun b e => by cases e; omega).setCell (by omega) _) ((hrB.grow hg8 fun b e => by cases e; omega).set (by omega) _) ?_
  refine DfaR.mono (S := (w.heap.size + 2 ≤ ·)) ?_ (fun b h => by omega)
  exact cons_dfa (Fl.stay (ownFl h8).fl hk8) hn8 ((hu.stay hk).mono fun b h => h.1) hvs (fun i hi => ((hr i hi).stay hk).mono fun b h => h.1) ((he.stay hk).mono fun b h => h.1)
set_option maxHeartbeats 8000000 in
theorem l20Dfa_c (rb p : Nat) (n : Int) (w : World) (h : Rdx w rb p) (hp : p ≤ 700000) (hn1 : -9223372036854775808 < n) : Calls Try.prog 124 #[.pointer (some ⟨rb, 0, none⟩), .int .i64 n] w (DrD rb p 300 w) := by
  have hlt0 := h.lt
  obtain ⟨W, hW⟩ : ∃ W, W = (w.alloc (.cells #[.slice none 0 0, .slice none 0 0] 26)).alloc (.cells #[.slice none 0 0, .slice none 0 0] 26) := ⟨_, rfl⟩
  have HX0 : Hid (DX w rb p [] [] (.slice none 0 0) (.slice none 0 0) W) := by
    have hb : Below w.heap.size w W := by rw [hW]; exact ((Below.refl _ _).alloc (Nat.le_refl _) _).alloc (by simp) _
    exact ⟨Dr.below hb, h.stay hb, ⟨Below.refl _ _, by rw [hW]; simp, Nat.le_refl _, by rw [hW]; exact blkNew _ _ (by simp), World.ownsRow_nil _ _ _ _, World.ownsRow_nil _ _ _ _, nofun, List.nodup_nil⟩, by rw [hW]; exact blkOld (blkNew _ _ rfl), hlt0⟩
  have HW := Lib.hid hW; clear hW h
  go_enter Try.func124, Try.ntmps124
  go_wp2_with fail
  rw [← HW.out]
  clear HW
  refine (pick_x rb p _ W HX0.out.rd (by omega)).mono ?_
  rintro e w1 ⟨m, rfl, hm0, hm1, hd1, hr1, hz1⟩
  have HX1 := Lib.hid (HX0.out.dw hd1 hr1.out)
  obtain ⟨N, hN⟩ : ∃ N : Nat, 1 + m = N := ⟨(1 + m).toNat, by omega⟩
  have hN1 : 1 ≤ N := by omega
  have hN7 : N ≤ 7 := by omega
  have HN := Lib.hid hN
  clear hN hd1 hr1 hz1 HX0
  have hm7 : m ≤ 6 := by omega
  clear hm1
  go_wp2_with fail
  rw [HN.out]
  clear hm0 hm7
  go_loopw [7] (fun i wr => ∃ (k q : Nat) (rs : List (Value × List Int)) (es : List Bool) (vN vE : Value), k ≤ N ∧ i = .int .i64 k ∧ Hid (rs.length = k) ∧ Hid (es.length = k) ∧ q ≤ p + 1 + 4 * k ∧ Hid (DX w rb q rs es vN vE wr)) (fun i _ => N - (intOf i).toNat)
  case atStart => exact ⟨0, p + 1, [], [], _, _, by omega, rfl, rfl, rfl, by omega, HX1⟩
  case round =>
    clear HX1
    obtain ⟨k, q, rs, es, vN, vE, hk, rfl, Hrl, Hel, hq, HX⟩ := hrel
    by_cases hlt : k < N
    · go_wp2_with fail
      obtain ⟨B6, hB6⟩ : ∃ B6, B6 = wr.heap.size := ⟨_, rfl⟩
      have ho6 : Hid ((wr.alloc (.cells #[] 3)).ownsRow (w.heap.size + 1) 3 1 (.slice (some ⟨B6, 0, none⟩) 0 0) 0 []) := by rw [hB6]; exact ownLit [] HX.out.bs.size (by omega) rfl
      have HX6 := Lib.hid (HX.out.stay ((Below.refl wr.heap.size wr).alloc (Nat.le_refl _) (.cells #[] 3)))
      have Hne6 : Hid (∀ p ∈ rs, p.1.ownBlock ≠ Value.ownBlock (.slice (some ⟨B6, 0, none⟩) 0 0)) := fun p hp he => by
        obtain ⟨g, e1, hg⟩ := HX.out.bs.lt hp
        rw [e1, hB6] at he
        simp [Value.ownBlock] at he
        omega
      rw [← hB6]
      clear hB6 HX
      generalize wr.alloc (.cells #[] 3) = w6 at *
      go_loopw [8, 9] (fun m i wr => ∃ (c q2 : Nat) (r : List Int), c ≤ 3 ∧ i = .int .i64 c ∧ Hid (r.length = c) ∧ q2 ≤ q + c ∧ Hid (OwI wr (w.heap.size + 1) m r) ∧ Hid (∀ p ∈ rs, p.1.ownBlock ≠ m.ownBlock) ∧
        Hid (DX w rb q2 rs es vN vE wr)) (fun _ i _ => 3 - (intOf i).toNat)
      case atStart => exact ⟨0, q, [], by omega, rfl, rfl, by omega, ho6, Hne6, HX6⟩
      case round =>
        clear ho6 Hne6 HX6
        obtain ⟨c, q2, r, hc, rfl, Hrl2, hq2, ho, hne, HX⟩ := hrel
        by_cases hc3 : c < 3
        · obtain ⟨am, capm, rfl, _⟩ := (ownFl ho.out).shape
          go_wp2_with fail
          refine (pick_x rb q2 _ wr HX.out.rd (by omega)).mono ?_
          rintro e w5 ⟨x, rfl, hx0, hx1, hd5, hr5, hz5⟩
          have HX5 := Lib.hid (HX.out.dw hd5 hr5.out)
          have ho5 : Hid (OwI w5 (w.heap.size + 1) (.slice am r.length capm) r) := Lib.hid (hd5.own ho.out (by omega))
          have hz5' := HX5.out.bs.size
          clear hd5 hr5 hz5 HX ho hx0 hx1
          go_wp2_with (
            refine appAt elInt (by decide) rfl (.tmp 26) (.tmp 30) rfl (w.heap.size + 1) _ _ _ [.int .i64 x] w5 rfl rfl rfl ho5.out rfl (by simp [Value.oneCell']) (by have := Hrl2.out; omega) hz5' ?_
            intro v7 w7 ho7 hg7 hat7
            have HX7 := Lib.hid (HX5.out.grow ho5.out hg7 hne.out)
            have hne8 : Hid (∀ p ∈ rs, p.1.ownBlock ≠ v7.ownBlock) := fun p hp he => by
              rcases hat7.out with h | h
              · exact hne.out p hp (he.trans h)
              · obtain ⟨g, e1, hg⟩ := HX5.out.bs.lt hp
                rw [e1] at he
                rw [h] at he
                injection he with he
                omega
            have ho8 : Hid (OwI w7 (w.heap.size + 1) v7 (r ++ [x])) := Lib.hid (by unfold OwI; rw [List.length_append, List.map_append]; exact ho7.out)
            clear hat7 hg7 ho7)
          go_roundw
          case rel => exact ⟨c + 1, q2 + 1, r ++ [x], by omega, by go_num, Lib.hid (by rw [List.length_append, Hrl2.out]; rfl), by omega, ho8, hne8, HX7⟩
          case measure => simp [intOf]; omega
        · obtain rfl : c = 3 := by omega
          obtain ⟨am, capm, rfl, _⟩ := (ownFl ho.out).shape
          obtain ⟨c0, c1, f0, f1⟩ := blk2 HX.out.bs.b4
          have hzr := HX.out.bs.size
          go_wp2_with (
            refine appAt elInts (by decide) rfl (.tmp 33) (.tmp 35) rfl (w.heap.size + 1) _ _ _ [.slice am r.length capm] wr rfl rfl rfl HX.out.bs.nx rfl (by simp [Value.oneCell']) (by have := Hrl.out; omega) hzr ?_
            intro v4 w4 ho4 hg4 hat4
            obtain ⟨a4, cap4, rfl, _⟩ := (ownFl ho4.out).shape
            have HXn := Lib.hid (HX.out.row (r := r) (by have := Hrl2.out; omega) ho.out hne.out hg4 ho4.out)
            have b4 := blkGrow hg4 HX.out.bs.b4 (own_cells' HX.out.bs.nx HX.out.bs.b4 (by decide))
            obtain ⟨c0', c1', f0', f1'⟩ := blk2 b4
            clear b4 c0 c1 f0 f1 hat4 ho4)
          generalize w4.setCell ⟨w.heap.size + 1, 0, none⟩ (.slice a4 (rs.length + 1) cap4) = w5 at *
          clear hg4 HX c0' c1' f0' f1' hne
          obtain ⟨aE', capE, hvE, _⟩ := (ownFl HXn.out.bs.en).shape
          rw [Hel.out] at hvE
          subst hvE
          obtain ⟨c0, c1, f0, f1⟩ := blk2 HXn.out.bs.b4
          have HXD := Lib.hid (HXn.out.stay (Below.refl _ _).drew)
          have c1D : w5.drew.cell? ⟨w.heap.size + 1, 1, none⟩ = some (.slice aE' k capE) := c1
          have hz5 := HXn.out.bs.size
          go_region_law
            (first
              | (go_simp
                 refine (pick_x rb q2 _ _ (by first | exact HXD.out.rd | exact HXn.out.rd) (by omega)).mono ?_
                 rintro e w6 ⟨x, rfl, hx0, hx1, hd6, hr6, hz6⟩
                 have HX6 := Lib.hid (HXD.out.dw hd6 hr6.out)
                 have hz6' := HX6.out.bs.size
                 obtain ⟨c0P, c1P, f0P, f1P⟩ := blk2 HX6.out.bs.b4
                 have c1Q : (w6.alloc (.cells #[.bool (x == 0)] 4)).cell? ⟨w.heap.size + 1, 1, none⟩ = some (.slice aE' k capE) := kpAlloc (S := fun _ => True) _ _ trivial c1P
                 clear hd6 hr6 hz6 hx0 hx1)
              | (refine stepAppAt elBool (by decide) rfl (.tmp 39) (.tmp 43) rfl (w.heap.size + 1) _ _ _ [.bool (x == 0)] _ w6.heap.size rfl rfl (HX6.out.bs.en.alloc _) (by exact blkNew _ _ rfl) rfl (by simp [Value.oneCell']) (by have := Hel.out; omega) (by simp; omega) ?_
                 intro g7 cap7 w7 ho7 hg7 hat7
                 have hg8 : w6.grownBy w7 _ := grownTrans (grownBel ((Below.refl _ _).alloc (Nat.le_refl _) _)) hg7
                 have HX7 := Lib.hid (HX6.out.mark hg8 ho7.out)
                 have b4' := blkGrow hg8 HX6.out.bs.b4 (own_cells' HX6.out.bs.en HX6.out.bs.b4 (by decide))
                 obtain ⟨c0', c1R, f0', f1'⟩ := blk2 b4'
                 clear b4'))
          all_goals (
            clear hg8 hg7 ho7 hat7 c0' c1R f0' f1' c0P c1P f0P f1P c1Q HX6 HXn HXD c1D c0 c1 f0 f1 ho
            go_wp2
            go_roundw
            case rel => exact ⟨k + 1, q2 + 1, _, _, _, _, by omega, by go_num, Lib.hid (by rw [List.length_append, Hrl.out]; rfl), Lib.hid (by rw [List.length_append, Hel.out]; rfl), by omega, HX7⟩
            case measure => simp [intOf]; omega)
    · obtain rfl : k = N := by omega
      have HdX : Hid (DfaR (w.heap.size + 2 ≤ ·) wr vN vE (rs.map (·.2), es)) := Lib.hid ((HX.out.bs.dfa (by rw [Hrl.out]; exact hN1) (by rw [Hel.out]; exact hN1)).rd.mono fun b h => by omega)
      obtain ⟨D, hD⟩ : ∃ D : DfaD, D = (rs.map (·.2), es) := ⟨_, rfl⟩
      have hD1 : Hid (D.1.length = k) := Lib.hid (by rw [hD]; show (rs.map _).length = _; rw [List.length_map, Hrl.out])
      have hD2 : Hid (D.2.length = k) := Lib.hid (by rw [hD]; exact Hel.out)
      rw [← hD] at HdX
      clear hD
      have K4 := Lib.hid HX.out.k4
      have K5 := Lib.hid HX.out.bs.b4
      have HR := Lib.hid HX.out.rd
      have HDr := Lib.hid HX.out.dr
      clear HX Hrl Hel
      obtain ⟨aN, cN, aE, cE, rfl, rfl, hn1', hn2'⟩ := HdX.out.shapes
      go_upto_if 47 with (go_at_call 133; refine (odd_x rb q 3 wr HR.out (by omega) (by omega)).mono ?_; rintro e w2 ⟨b1, q2, rfl, hq2, hd2, hr2, hz2⟩)
      go_cut [10] (fun s wx => DZ w rb (q + 200) wx)
      case first =>
        have HDr2 := Lib.hid (HDr.out.trans hd2)
        have Hd2 : Hid (DfaR (w.heap.size + 2 ≤ ·) w2 (.slice aN D.1.length cN) (.slice aE D.2.length cE) D) := Lib.hid (HdX.out.stay (hd2.kp.mono fun b h => by show b ≠ rb; omega))
        have K42 := Lib.hid (hd2.blk K4.out (by omega))
        have K52 := Lib.hid (hd2.blk K5.out (by omega))
        clear hd2 hz2 HDr HdX K4 K5
        have hk40 := hD1.out
        have hk41 := hD2.out
        cases b1
        · go_wp2_with fail
          go_meet
          exact ⟨q2, D, _, _, by omega, HDr2.out, hr2, K42, K52, Hd2, ⟨by omega, by omega⟩, ⟨by omega, by omega⟩⟩
        · have Hk40 := Lib.hid hk40
          have Hk41 := Lib.hid hk41
          clear hk40 hk41
          go_wp2_with fail
          refine (pick_x rb q2 _ w2 hr2.out (by omega)).mono ?_
          rintro e w3 ⟨r, rfl, hr0, hr1, hd3, hr3, hz3⟩
          have HDr3 := Lib.hid (HDr2.out.trans hd3)
          have Hd3 : Hid (DfaR (w.heap.size + 2 ≤ ·) w3 (.slice aN D.1.length cN) (.slice aE D.2.length cE) D) := Lib.hid (Hd2.out.stay (hd3.kp.mono fun b h => by show b ≠ rb; omega))
          have K43 := Lib.hid (hd3.blk K42.out (by omega))
          have K53 := Lib.hid (hd3.blk K52.out (by omega))
          clear hd3 hz3 HDr2 Hd2 K42 K52 hr2
          have hr2' : r ≤ 2 := by omega
          clear hr1
          go_wp2_with fail
          obtain ⟨d, hd⟩ : ∃ d : Nat, 1 + r = d := ⟨(1 + r).toNat, by omega⟩
          have hd3' : d ≤ 3 := by omega
          rw [hd]
          clear hd hr0 hr2'
          refine (l20Make_c d hd3' rb (q2 + 1) false w3 hr3.out (by omega)).mono ?_
          rintro e w4 ⟨ve, xs, q4, rfl, hxl, hq4, hd4, hr4, ho4⟩
          have HDr4 := Lib.hid (HDr3.out.trans hd4)
          have Hd4 : Hid (DfaR (w.heap.size + 2 ≤ ·) w4 (.slice aN D.1.length cN) (.slice aE D.2.length cE) D) := Lib.hid (Hd3.out.stay (hd4.kp.mono fun b h => by show b ≠ rb; omega))
          have K44 := Lib.hid (hd4.blk K43.out (by omega))
          have K54 := Lib.hid (hd4.blk K53.out (by omega))
          clear hd4 HDr3 Hd3 K43 K53 hr3
          obtain ⟨ax, cx, rfl, _⟩ := ho4.out.shape
          go_wp2_with fail
          refine (CompileExpr_c _ xs w4 ho4.out.rd (by omega)).mono ?_
          rintro e w5 ⟨D', v1, v2, b', rfl, hb5, hD5, hd5⟩
          obtain ⟨aN', cN', aE', cE', rfl, rfl, hnn', hmm'⟩ := hd5.out.shapes
          have hw4 : Hid (w.heap.size + 2 ≤ w4.heap.size) := Lib.hid (by have := (Array.getElem?_eq_some_iff.1 K54.out).1; omega)
          have HDr5 := Lib.hid (HDr4.out.trans (Dr.below hb5))
          have Hd5 := Lib.hid (Hd4.out.stay (kpB hb5))
          have K45 := Lib.hid (blkBel hb5 K44.out)
          have K55 := Lib.hid (blkBel hb5 K54.out)
          have Hr5 := Lib.hid (hr4.out.stay hb5)
          obtain ⟨c0, c1, f0, f1⟩ := blk2 K55.out
          have hlt5 : w.heap.size + 1 < w5.heap.size := (Array.getElem?_eq_some_iff.1 K55.out).1
          clear hb5 HDr4 Hd4 K44 K54 hr4
          have hA5 : Hid (∀ o, Below w5.heap.size w5 (w5.alloc o)) := fun o => (Below.refl _ _).alloc (Nat.le_refl _) _
          rcases hD5.out with ⟨rfl, hok⟩ | ⟨rfl, hno⟩
          · have Hok := Lib.hid hok; clear hok
            go_wp2_with fail
            go_meet
            have hk : Kp (· ≠ w.heap.size + 1) w5 ((w5.setCell ⟨w.heap.size + 1, 0, none⟩ (.slice aN' D'.1.length cN')).setCell ⟨w.heap.size + 1, 1, none⟩ (.slice aE' D'.2.length cE')) := kpSet.trans kpSet
            have h40 := Hok.out.1
            have h4l := Hok.out.2.1
            have hw := hw4.out
            exact ⟨q4, D', _, _, by omega, ((HDr5.out.setCell (by omega) _).setCell (by omega) _).alloc _, Lib.hid ((((Hr5.out.set (by omega) _).set (by omega) _)).stay ((Below.refl _ _).alloc (Nat.le_refl _) _)),
              blkOld (blkSet (blkSet K45.out (by omega)) (by omega)), blkOld (heap_set (heap_set K55.out 0 _) 1 _), Lib.hid ((((hd5.out.mono (T := fun b => w.heap.size + 2 ≤ b) (fun b h => by omega)).stay (hk.mono fun b h => by omega))).stay kpAlloc), ⟨by omega, by omega⟩, ⟨by omega, by omega⟩⟩
          · have Hno := Lib.hid hno; clear hno
            go_wp2_with fail
            go_meet
            have h40 := Hk40.out
            have h4l := Hk41.out
            exact ⟨q4, D, _, _, by omega, HDr5.out.alloc _, Lib.hid (Hr5.out.stay (hA5.out _)), blkOld K45.out, blkOld K55.out, Lib.hid (Hd5.out.stay kpAlloc), ⟨by omega, by omega⟩, ⟨by omega, by omega⟩⟩
      case rest =>
        clear HDr HdX K4 K5 HR hr2 hd2 hz2 hD1 hD2
        obtain ⟨q5, D, vN, vE, hq5, HDr, HR, K4, K5, Hd, hl1, hl2⟩ := hcut
        obtain ⟨aN, cN, aE, cE, rfl, rfl, hn1', hn2'⟩ := Hd.out.shapes
        have hDr' := Lib.hid HDr; clear HDr
        go_wp2_with fail
        refine (odd_x rb q5 n wc HR.out (by omega) hn1).mono ?_
        rintro e w3 ⟨b2, q6, rfl, hq6, hd3, hr3, hz3⟩
        have HDr3 := Lib.hid (hDr'.out.trans hd3)
        have Hd3 : Hid (DfaR (w.heap.size + 2 ≤ ·) w3 (.slice aN D.1.length cN) (.slice aE D.2.length cE) D) := Lib.hid (Hd.out.stay (hd3.kp.mono fun b h => by show b ≠ rb; omega))
        have K43 := Lib.hid (hd3.blk K4.out (by omega))
        have K53 := Lib.hid (hd3.blk K5.out (by omega))
        clear hd3 hz3 hDr' Hd K4 K5 HR
        obtain ⟨c0, c1, f0, f1⟩ := blk2 K53.out
        obtain ⟨q0, q1, r0, r1⟩ := blk2 K43.out
        have hlt3 : w.heap.size + 1 < w3.heap.size := (Array.getElem?_eq_some_iff.1 K53.out).1
        cases b2
        · go_wp2
          refine bodyPost_ret (v := .agg #[.slice aN D.1.length cN, .slice aE D.2.length cE]) (by simp [results, Try.results124, go_sem, q0, q1, r0]) rfl ?_
          exact DrD.fin (by omega) (by omega) hlt0 HDr3.out hr3.out (Hd3.out.mono fun b h => by omega)
        · clear c0 c1 f0 f1 q0 q1 r0 r1
          go_wp2_with fail
          refine (pick_x rb q6 _ w3 hr3.out (by omega)).mono ?_
          rintro e w4 ⟨r, rfl, hr0, hr1, hd4, hr4, hz4⟩
          have HDr4 := Lib.hid (HDr3.out.trans hd4)
          have Hd4 : Hid (DfaR (w.heap.size + 2 ≤ ·) w4 (.slice aN D.1.length cN) (.slice aE D.2.length cE) D) := Lib.hid (Hd3.out.stay (hd4.kp.mono fun b h => by show b ≠ rb; omega))
          have K44 := Lib.hid (hd4.blk K43.out (by omega))
          have K54 := Lib.hid (hd4.blk K53.out (by omega))
          have hlt4 : w.heap.size + 1 < w4.heap.size := by omega
          clear hd4 hz4 HDr3 Hd3 K43 K53 hr3
          obtain ⟨c0, c1, f0, f1⟩ := blk2 K54.out
          obtain ⟨q0, q1, r0', r1'⟩ := blk2 K44.out
          rcases (by omega : r = 0 ∨ r = 1 ∨ r = 2 ∨ r = 3) with rfl | rfl | rfl | rfl
          · clear hr0 hr1
            have hl21 : (1 : Int) ≤ (D.2.length : Int) := by omega
            by_cases hcE : cE = 1
            · subst hcE
              have ht : Hid (Fl (w.heap.size + 2 ≤ ·) w4 (.slice aE (D.2.length - 1) 0) (D.2.length - 1) ((D.2.map Value.bool).drop 1)) := Lib.hid (fl_tail0 Hd4.out.2 (by simp) hl2.1)
              go_wp2
              refine bodyPost_ret (v := .agg #[.slice aN D.1.length cN, .slice aE (D.2.length - 1) 0]) (by simp [results, Try.results124, go_sem, q0, q1, r0']) rfl ?_
              refine DrD.fin (D := (D.1, D.2.drop 1)) (by omega) (by simp; omega) hlt0 (HDr4.out.setCell (by omega) _) (hr4.out.set (by omega) _) ?_
              have hk : Kp (w.heap.size + 2 ≤ ·) w4 (w4.setCell ⟨w.heap.size + 1, 1, none⟩ (.slice aE (D.2.length - 1) 0)) := (kpSet (b := w.heap.size + 1)).mono fun b h => by omega
              refine DfaR.mono (S := (w.heap.size + 2 ≤ ·)) ⟨Hd4.out.1.stay hk, ?_⟩ (fun b h => by omega)
              have := Fl.stay ht.out hk
              unfold Bools
              rw [List.length_drop, List.map_drop]
              exact this
            · have hcE0 := 0; clear hcE0
              have ht : Hid (Fl (w.heap.size + 2 ≤ ·) w4 (.slice (Option.map (fun x => { block := x.block, off := x.off + 1 }) aE) (D.2.length - 1) (cE - 1)) (D.2.length - 1) ((D.2.map Value.bool).drop 1)) := Lib.hid (fl_tail Hd4.out.2 (by simp) hl2.1)
              go_wp2
              refine bodyPost_ret (v := .agg #[.slice aN D.1.length cN, .slice (Option.map (fun x => { block := x.block, off := x.off + 1 }) aE) (D.2.length - 1) (cE - 1)]) (by simp [results, Try.results124, go_sem, q0, q1, r0']) rfl ?_
              refine DrD.fin (D := (D.1, D.2.drop 1)) (by omega) (by simp; omega) hlt0 (HDr4.out.setCell (by omega) _) (hr4.out.set (by omega) _) ?_
              have hk : Kp (w.heap.size + 2 ≤ ·) w4 (w4.setCell ⟨w.heap.size + 1, 1, none⟩ (.slice (Option.map (fun x => { block := x.block, off := x.off + 1 }) aE) (D.2.length - 1) (cE - 1))) := (kpSet (b := w.heap.size + 1)).mono fun b h => by omega
              refine DfaR.mono (S := (w.heap.size + 2 ≤ ·)) ⟨Hd4.out.1.stay hk, ?_⟩ (fun b h => by omega)
              have := Fl.stay ht.out hk
              unfold Bools
              rw [List.length_drop, List.map_drop]
              exact this
          · clear hr0 hr1
            obtain ⟨vs, f1'', f2'', f3''⟩ := Hd4.out.1
            have f1' := Lib.hid f1''
            have f2' := Lib.hid f2''
            have f3' := Lib.hid f3''
            have hone : Hid (∀ u ∈ vs.drop 1, u.oneCell' = true) := Lib.hid (rows_one f2'' f3'')
            clear f1'' f2'' f3''
            obtain ⟨WB, hWB⟩ : ∃ x, x = (w4.alloc (.cells #[.int .i64 0, .int .i64 0] 3)).alloc (.cells #[.slice (some ⟨w4.heap.size, 0, none⟩) 2 2] 39) := ⟨_, rfl⟩
            have hbB : Hid (Below w4.heap.size w4 WB) := by rw [hWB]; exact ((Below.refl _ _).alloc (Nat.le_refl _) _).alloc (by simp) _
            have hzB' : Hid (WB.heap.size = w4.heap.size + 2) := by rw [hWB]; simp [Hid]
            have hzB : w.heap.size + 2 ≤ WB.heap.size := by rw [hzB'.out]; omega
            have HO : Hid (WB.ownsRow (w.heap.size + 2) 39 1 (.slice (some ⟨w4.heap.size + 1, 0, none⟩) 1 1) 1 [.slice (some ⟨w4.heap.size, 0, none⟩) 2 2]) := Lib.hid ⟨rfl, .inr ⟨w4.heap.size + 1, 1, _, rfl, by omega, by rw [hWB]; exact blkNew _ _ (by simp), Nat.le_refl _, by unfold maxLen; omega, by simp, by simp⟩⟩
            have huB : Hid (Ints (fun b => w.heap.size + 2 ≤ b ∧ b ≠ w4.heap.size + 1) WB (.slice (some ⟨w4.heap.size, 0, none⟩) 2 2) [0, 0]) := Lib.hid (ownFlS (base := 0) (e := 3) (sz := 1) ⟨rfl, .inr ⟨w4.heap.size, 2, _, rfl, by omega, by rw [hWB]; exact blkOld (blkNew _ _ rfl), Nat.le_refl _, by unfold maxLen; omega, by simp, by simp⟩⟩ fun b h => by cases h; exact ⟨by show w.heap.size + 2 ≤ w4.heap.size; omega, by show w4.heap.size ≠ w4.heap.size + 1; omega⟩)
            have f3B : Hid (∀ i (hi : i < D.1.length), Ints (fun b => w.heap.size + 2 ≤ b ∧ b ≠ w4.heap.size + 1) WB (vs.getD i undef) D.1[i]) := fun i hi => ((Fl.inHeap (f3'.out i hi)).mono fun b h => ⟨h.1, by omega⟩).stay (kpB hbB.out)
            have heB : Hid (Bools (fun b => w.heap.size + 2 ≤ b ∧ b ≠ w4.heap.size + 1) WB (.slice aE D.2.length cE) D.2) := Lib.hid (Fl.stay ((Fl.inHeap Hd4.out.2).mono fun b h => ⟨h.1, by omega⟩) (kpB hbB.out))
            have HDB := Lib.hid (HDr4.out.trans (Dr.below hbB.out))
            have HrB := Lib.hid (hr4.out.stay hbB.out)
            have K5B := Lib.hid (blkBel hbB.out K54.out)
            have K4B := Lib.hid (blkBel hbB.out K44.out)
            have hneA : some (w.heap.size + 1) ≠ Value.ownBlock (.slice (some ⟨w4.heap.size + 1, 0, none⟩) 1 1) := fun e => by have h : w.heap.size + 1 = w4.heap.size + 1 := Option.some.inj e; omega
            have hneB : some w.heap.size ≠ Value.ownBlock (.slice (some ⟨w4.heap.size + 1, 0, none⟩) 1 1) := fun e => by have h : w.heap.size = w4.heap.size + 1 := Option.some.inj e; omega
            obtain ⟨m0, m1, _, _⟩ := blk2 K5B.out
            have HWB := Lib.hid hWB
            rw [hWB] at m0 m1
            clear hWB c0 c1 f0 f1 q0 q1 r0' r1'
            have hl11 : (1 : Int) ≤ (D.1.length : Int) := by omega
            by_cases hcN : cN = 1
            · subst hcN
              have ht : Hid (Fl (w.heap.size + 2 ≤ ·) w4 (.slice aN (D.1.length - 1) 0) (D.1.length - 1) (vs.drop 1)) := Lib.hid (fl_tail0 f1'.out (by rw [f2'.out]) hl1.1)
              go_wp2_with (at_builtin; rw [← HWB.out]; refine appMany (S := (w.heap.size + 2 ≤ ·)) elInts (by decide) rfl (.tmp 74) (.tmp 77) rfl (w.heap.size + 2) _ _ 1 (D.1.length - 1) [.slice (some ⟨w4.heap.size, 0, none⟩) 2 2] (vs.drop 1) WB rfl rfl HO.out (Fl.stay ht.out (kpB hbB.out)) (by rw [List.length_drop, f2'.out, Nat.mul_one]) hone.out (by omega) hzB ?_; intro v8 w8 h8 hg8; obtain ⟨a8, n8, c8, rfl⟩ : ∃ a n c, v8 = .slice a n c := (let ⟨a, c, e, _⟩ := (ownFl h8.out).shape; ⟨a, _, c, e⟩); obtain ⟨k0, k1, g0, g1⟩ := blk2 (blkGrow hg8 K5B.out hneA); obtain ⟨j0, j1, g2, g3⟩ := blk2 (blkGrow hg8 K4B.out hneB))
              refine bodyPost_ret (v := .agg #[.slice a8 n8 c8, .slice aE D.2.length cE]) (by simp [results, Try.results124, go_sem, j0, j1, g2]) rfl ?_
              exact tail_dfa (Lb := w4.heap.size + 1) (by omega) hl2.2 hlt0 HDB.out HrB.out (by omega) f2'.out (fun i hi => f3B.out i hi) heB.out huB.out h8.out (by rfl) hg8
            · clear m1
              have ht : Hid (Fl (w.heap.size + 2 ≤ ·) w4 (.slice (Option.map (fun x => { block := x.block, off := x.off + 1 }) aN) (D.1.length - 1) (cN - 1)) (D.1.length - 1) (vs.drop 1)) := Lib.hid (fl_tail f1'.out (by rw [f2'.out]) hl1.1)
              go_wp2_with (at_builtin; rw [← HWB.out]; refine appMany (S := (w.heap.size + 2 ≤ ·)) elInts (by decide) rfl (.tmp 74) (.tmp 77) rfl (w.heap.size + 2) _ _ 1 (D.1.length - 1) [.slice (some ⟨w4.heap.size, 0, none⟩) 2 2] (vs.drop 1) WB rfl rfl HO.out (Fl.stay ht.out (kpB hbB.out)) (by rw [List.length_drop, f2'.out, Nat.mul_one]) hone.out (by omega) hzB ?_; intro v8 w8 h8 hg8; obtain ⟨a8, n8, c8, rfl⟩ : ∃ a n c, v8 = .slice a n c := (let ⟨a, c, e, _⟩ := (ownFl h8.out).shape; ⟨a, _, c, e⟩); obtain ⟨k0, k1, g0, g1⟩ := blk2 (blkGrow hg8 K5B.out hneA); obtain ⟨j0, j1, g2, g3⟩ := blk2 (blkGrow hg8 K4B.out hneB))
              refine bodyPost_ret (v := .agg #[.slice a8 n8 c8, .slice aE D.2.length cE]) (by simp [results, Try.results124, go_sem, j0, j1, g2]) rfl ?_
              exact tail_dfa (Lb := w4.heap.size + 1) (by omega) hl2.2 hlt0 HDB.out HrB.out (by omega) f2'.out (fun i hi => f3B.out i hi) heB.out huB.out h8.out (by rfl) hg8
          · clear hr0 hr1
            obtain ⟨vs, f1'', f2'', f3''⟩ := Hd4.out.1
            have f1' := Lib.hid f1''
            have f2' := Lib.hid f2''
            have f3' := Lib.hid f3''
            have hone : Hid (∀ u ∈ vs.drop 1, u.oneCell' = true) := Lib.hid (rows_one f2'' f3'')
            obtain ⟨bN, oN, haN⟩ : ∃ b o, aN = some ⟨b, o, none⟩ := by obtain ⟨b, o, e, _⟩ := f1''.at (i := 0) (by omega); exact ⟨b, o, e⟩
            subst haN
            clear f1'' f2'' f3''
            have hltb : rb ≠ w4.heap.size := by omega
            have c0L : (w4.alloc (.cells #[.int .i64 (-1), .int .i64 D.1.length] 3)).cell? ⟨w.heap.size + 1, 0, none⟩ = _ := kpAlloc (S := fun _ => True) _ _ trivial c0
            have c0D : w4.drew.cell? ⟨w.heap.size + 1, 0, none⟩ = _ := c0
            have c0E : (w4.alloc (.cells #[.int .i64 (-1), .int .i64 D.1.length] 3)).drew.cell? ⟨w.heap.size + 1, 0, none⟩ = _ := c0L
            have hrE : Hid (Rdx w4.drew rb (q6 + 1)) := hr4
            have hrD : Hid (Rdx (w4.alloc (.cells #[.int .i64 (-1), .int .i64 D.1.length] 3)).drew rb (q6 + 1)) := Lib.hid (hr4.out.stay ((Below.refl _ _).alloc (Nat.le_refl _) _).drew)
            have hl11 : (1 : Int) ≤ (D.1.length : Int) := by omega
            by_cases hcN : cN = 1
            · subst hcN
              have ht : Hid (Fl (w.heap.size + 2 ≤ ·) w4 (.slice (some ⟨bN, oN, none⟩) (D.1.length - 1) 0) (D.1.length - 1) (vs.drop 1)) := Lib.hid (fl_tail0 f1'.out (by rw [f2'.out]) hl1.1)
              go_wp2_with fail
              go_region_law
                (first
                  | (go_simp
                     have hgo := pick_x rb (q6 + 1) 2 (w4.alloc (.cells #[.int .i64 (-1), .int .i64 D.1.length] 3)).drew hrD.out (by omega)
                     with_reducible refine hgo.mono ?_
                     clear hgo
                     rintro e w5 ⟨j, rfl, hj0, hj1, hd5, hr5, hz5⟩
                     obtain ⟨jn, rfl⟩ := Int.eq_ofNat_of_zero_le hj0
                     have hkp : Kp (· ≠ rb) (w4.alloc (.cells #[.int .i64 (-1), .int .i64 D.1.length] 3)) w5 := fun ad v h e => hd5.kp ad v h e
                     obtain ⟨y, hy⟩ : ∃ y : Int, w5.cell? ⟨w4.heap.size, jn, none⟩ = some (.int .i64 y) := pickTwo hkp (by omega) hltb
                     have hjI : (jn : Int) < 2 := by omega
                     have c0R : w5.cell? ⟨w.heap.size + 1, 0, none⟩ = _ := hkp _ _ (by show w.heap.size + 1 ≠ rb; omega) c0L
                     have c0R' : ∀ o, (w5.alloc o).cell? ⟨w.heap.size + 1, 0, none⟩ = _ := fun o => kpAlloc (S := fun _ => True) _ _ trivial c0R
                     have c0R'' : ∀ o o', ((w5.alloc o).alloc o').cell? ⟨w.heap.size + 1, 0, none⟩ = _ := fun o o' => kpAlloc (S := fun _ => True) _ _ trivial (c0R' o)
                     have HR := Lib.hid (rb25 (y := y) hlt0 HDr4.out ((Dr.below (((Below.refl _ _).alloc (Nat.le_refl _) _).drew)).trans hd5) hr5.out rfl (by omega) ht.out f3'.out Hd4.out.2 K54.out K44.out)
                     clear hd5 hj0 hj1 hz5)
                  | (go_simp
                     have hgo := pick_x rb (q6 + 1) 2 w4.drew hrE.out (by omega)
                     with_reducible refine hgo.mono ?_
                     clear hgo
                     rintro e w5 ⟨j, rfl, hj0, hj1, hd5, hr5, hz5⟩
                     obtain ⟨jn, rfl⟩ := Int.eq_ofNat_of_zero_le hj0
                     obtain ⟨y, hy⟩ : ∃ y : Int, (w5.alloc (.cells #[.int .i64 (-1), .int .i64 D.1.length] 3)).cell? ⟨w5.heap.size, jn, none⟩ = some (.int .i64 y) := pickTwo2 (by omega)
                     have hjI : (jn : Int) < 2 := by omega
                     have c0R : w5.cell? ⟨w.heap.size + 1, 0, none⟩ = _ := hd5.kp _ _ (by show w.heap.size + 1 ≠ rb; omega) c0D
                     have c0R' : ∀ o, (w5.alloc o).cell? ⟨w.heap.size + 1, 0, none⟩ = _ := fun o => kpAlloc (S := fun _ => True) _ _ trivial c0R
                     have c0R'' : ∀ o o', ((w5.alloc o).alloc o').cell? ⟨w.heap.size + 1, 0, none⟩ = _ := fun o o' => kpAlloc (S := fun _ => True) _ _ trivial (c0R' o)
                     have c0R3 : ∀ o o' o'', (((w5.alloc o).alloc o').alloc o'').cell? ⟨w.heap.size + 1, 0, none⟩ = _ := fun o o' o'' => kpAlloc (S := fun _ => True) _ _ trivial (c0R'' o o')
                     have HR := Lib.hid (rb25 (y := y) hlt0 HDr4.out (((Dr.below (Below.refl _ _).drew).trans hd5).alloc (.cells #[.int .i64 (-1), .int .i64 D.1.length] 3)) (hr5.out.stay ((Below.refl _ _).alloc (Nat.le_refl _) _)) (World.size_alloc _ _) (by omega) ht.out f3'.out Hd4.out.2 K54.out K44.out)
                     clear hd5 hj0 hj1 hz5)
                  | (refine stepAppMany (S := (w.heap.size + 2 ≤ ·)) elInts (by decide) rfl (.tmp 91) (.tmp 94) rfl (w.heap.size + 2) _ 1 (D.1.length - 1) _ (vs.drop 1) _ ⟨bN, oN, none⟩ 0 rfl rfl HR.out.own (by omega) HR.out.tl (by rw [List.length_drop, f2'.out, Nat.mul_one]) hone.out (by omega) HR.out.sz ?_
                     intro v8 w8 h8 hg8
                     obtain ⟨a8, n8, c8, rfl⟩ : ∃ a n c, v8 = .slice a n c := (let ⟨a, c, e, _⟩ := (ownFl h8.out).shape; ⟨a, _, c, e⟩)
                     have hfin := Lib.hid (fun (hp : q6 + 1 + 1 ≤ p + 300) => tail_dfa hp hl2.2 hlt0 HR.out.db HR.out.rd (by have := HR.out.hL; omega) f2'.out (fun i hi => HR.out.f3 i hi) HR.out.he HR.out.hu h8.out rfl hg8)
                     obtain ⟨k0, k1, g0, g1⟩ := blk2 (blkGrow hg8 HR.out.k5 (fun e => by have h := Option.some.inj e; have := HR.out.hL; exact absurd h (by show w.heap.size + 1 ≠ _ + 1; omega)))
                     obtain ⟨j0, j1, g2, g3⟩ := blk2 (blkGrow hg8 HR.out.k4 (fun e => by have h := Option.some.inj e; have := HR.out.hL; exact absurd h (by show w.heap.size ≠ _ + 1; omega)))))
              all_goals (
                clear c0 c0L c0D c0E c0R c0R' c0R''
                go_wp2
                refine bodyPost_ret (v := .agg #[.slice a8 n8 c8, .slice aE D.2.length cE]) (by simp [results, Try.results124, go_sem, j0, j1, g2]) rfl ?_
                exact hfin.out (by omega))
            · clear c1
              have ht : Hid (Fl (w.heap.size + 2 ≤ ·) w4 (.slice (some ⟨bN, oN + 1, none⟩) (D.1.length - 1) (cN - 1)) (D.1.length - 1) (vs.drop 1)) := Lib.hid (fl_tail f1'.out (by rw [f2'.out]) hl1.1)
              go_wp2_with fail
              go_region_law
                (first
                  | (go_simp
                     have hgo := pick_x rb (q6 + 1) 2 (w4.alloc (.cells #[.int .i64 (-1), .int .i64 D.1.length] 3)).drew hrD.out (by omega)
                     with_reducible refine hgo.mono ?_
                     clear hgo
                     rintro e w5 ⟨j, rfl, hj0, hj1, hd5, hr5, hz5⟩
                     obtain ⟨jn, rfl⟩ := Int.eq_ofNat_of_zero_le hj0
                     have hkp : Kp (· ≠ rb) (w4.alloc (.cells #[.int .i64 (-1), .int .i64 D.1.length] 3)) w5 := fun ad v h e => hd5.kp ad v h e
                     obtain ⟨y, hy⟩ : ∃ y : Int, w5.cell? ⟨w4.heap.size, jn, none⟩ = some (.int .i64 y) := pickTwo hkp (by omega) hltb
                     have hjI : (jn : Int) < 2 := by omega
                     have c0R : w5.cell? ⟨w.heap.size + 1, 0, none⟩ = _ := hkp _ _ (by show w.heap.size + 1 ≠ rb; omega) c0L
                     have c0R' : ∀ o, (w5.alloc o).cell? ⟨w.heap.size + 1, 0, none⟩ = _ := fun o => kpAlloc (S := fun _ => True) _ _ trivial c0R
                     have c0R'' : ∀ o o', ((w5.alloc o).alloc o').cell? ⟨w.heap.size + 1, 0, none⟩ = _ := fun o o' => kpAlloc (S := fun _ => True) _ _ trivial (c0R' o)
                     have HR := Lib.hid (rb25 (y := y) hlt0 HDr4.out ((Dr.below (((Below.refl _ _).alloc (Nat.le_refl _) _).drew)).trans hd5) hr5.out rfl (by omega) ht.out f3'.out Hd4.out.2 K54.out K44.out)
                     clear hd5 hj0 hj1 hz5)
                  | (go_simp
                     have hgo := pick_x rb (q6 + 1) 2 w4.drew hrE.out (by omega)
                     with_reducible refine hgo.mono ?_
                     clear hgo
                     rintro e w5 ⟨j, rfl, hj0, hj1, hd5, hr5, hz5⟩
                     obtain ⟨jn, rfl⟩ := Int.eq_ofNat_of_zero_le hj0
                     obtain ⟨y, hy⟩ : ∃ y : Int, (w5.alloc (.cells #[.int .i64 (-1), .int .i64 D.1.length] 3)).cell? ⟨w5.heap.size, jn, none⟩ = some (.int .i64 y) := pickTwo2 (by omega)
                     have hjI : (jn : Int) < 2 := by omega
                     have c0R : w5.cell? ⟨w.heap.size + 1, 0, none⟩ = _ := hd5.kp _ _ (by show w.heap.size + 1 ≠ rb; omega) c0D
                     have c0R' : ∀ o, (w5.alloc o).cell? ⟨w.heap.size + 1, 0, none⟩ = _ := fun o => kpAlloc (S := fun _ => True) _ _ trivial c0R
                     have c0R'' : ∀ o o', ((w5.alloc o).alloc o').cell? ⟨w.heap.size + 1, 0, none⟩ = _ := fun o o' => kpAlloc (S := fun _ => True) _ _ trivial (c0R' o)
                     have c0R3 : ∀ o o' o'', (((w5.alloc o).alloc o').alloc o'').cell? ⟨w.heap.size + 1, 0, none⟩ = _ := fun o o' o'' => kpAlloc (S := fun _ => True) _ _ trivial (c0R'' o o')
                     have HR := Lib.hid (rb25 (y := y) hlt0 HDr4.out (((Dr.below (Below.refl _ _).drew).trans hd5).alloc (.cells #[.int .i64 (-1), .int .i64 D.1.length] 3)) (hr5.out.stay ((Below.refl _ _).alloc (Nat.le_refl _) _)) (World.size_alloc _ _) (by omega) ht.out f3'.out Hd4.out.2 K54.out K44.out)
                     clear hd5 hj0 hj1 hz5)
                  | (refine stepAppMany (S := (w.heap.size + 2 ≤ ·)) elInts (by decide) rfl (.tmp 91) (.tmp 94) rfl (w.heap.size + 2) _ 1 (D.1.length - 1) _ (vs.drop 1) _ ⟨bN, oN + 1, none⟩ (cN - 1) rfl rfl HR.out.own (by omega) HR.out.tl (by rw [List.length_drop, f2'.out, Nat.mul_one]) hone.out (by omega) HR.out.sz ?_
                     intro v8 w8 h8 hg8
                     obtain ⟨a8, n8, c8, rfl⟩ : ∃ a n c, v8 = .slice a n c := (let ⟨a, c, e, _⟩ := (ownFl h8.out).shape; ⟨a, _, c, e⟩)
                     have hfin := Lib.hid (fun (hp : q6 + 1 + 1 ≤ p + 300) => tail_dfa hp hl2.2 hlt0 HR.out.db HR.out.rd (by have := HR.out.hL; omega) f2'.out (fun i hi => HR.out.f3 i hi) HR.out.he HR.out.hu h8.out rfl hg8)
                     obtain ⟨k0, k1, g0, g1⟩ := blk2 (blkGrow hg8 HR.out.k5 (fun e => by have h := Option.some.inj e; have := HR.out.hL; exact absurd h (by show w.heap.size + 1 ≠ _ + 1; omega)))
                     obtain ⟨j0, j1, g2, g3⟩ := blk2 (blkGrow hg8 HR.out.k4 (fun e => by have h := Option.some.inj e; have := HR.out.hL; exact absurd h (by show w.heap.size ≠ _ + 1; omega)))))
              all_goals (
                clear c0 c0L c0D c0E c0R c0R' c0R''
                go_wp2
                refine bodyPost_ret (v := .agg #[.slice a8 n8 c8, .slice aE D.2.length cE]) (by simp [results, Try.results124, go_sem, j0, j1, g2]) rfl ?_
                exact hfin.out (by omega))
          · clear hr0 hr1
            go_wp2
            refine bodyPost_ret (v := .agg #[.slice none 0 0, .slice none 0 0]) (by simp [results, Try.results124, go_sem, q0, q1, r0']) rfl ?_
            exact DrD.fin (D := ([], [])) (by omega) (by simp) hlt0 ((HDr4.out.setCell (by omega) _).setCell (by omega) _) ((hr4.out.set (by omega) _).set (by omega) _) (dfaNone _)
end Go.Proofs.Ytcbhfopabgiiiaa
