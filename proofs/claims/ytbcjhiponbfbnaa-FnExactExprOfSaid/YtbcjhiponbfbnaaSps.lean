/- Which parts of a word an expression accepts: the program's spansOf, accepts and ExprAccepts: the walks. -/
import Derived.StillTailTactics
import Derived.Great.BuildSlice
import Derived.Deep.CutRange
import Derived.Deep.CutBlock
import Derived.Test.YtbcjhiponbfbnaaSpo
import Derived.Test.YtbcjhiponbfbnaaRgi
set_option linter.unusedSimpArgs false
set_option linter.unusedVariables false
set_option linter.unusedSectionVars false
namespace Go.Proofs.Ytbcjhiponbfbnaa
open Go.RowKit
set_option maxRecDepth 100000
variable {S T : Nat → Prop}
theorem grownSets {b : Nat} : ∀ (vs : List Value) (o : Nat) (w : World), w.grownBy (w.setCells b o vs) (some b)
  | [], _, w => grownRefl w _
  | v :: vs, o, w => grownTrans (grownSet w b o v) (grownSets vs (o + 1) _)
theorem OwnT.set {w : World} {base b : Nat} {v : Value} {ts : List Tb} (h : OwnT w base v ts) (hb : ∀ g, v.ownBlock = some g → g < b) (g : Tb) : OwnT (w.setCells b 0 (tab9 g).toList) base v ts :=
  World.ownsRow.kept h (grownSets _ 0 w) (by
    rcases hv : v.ownBlock with _ | q
    · exact .inl rfl
    · exact .inr fun e => by injection e with e; have := hb q hv; omega)
theorem OwnT.low {w : World} {base : Nat} {v : Value} {ts : List Tb} (h : OwnT w base v ts) : ∀ g, v.ownBlock = some g → g < w.heap.size := fun g hg => (World.ownsRow.lt h g hg).2
theorem sz9 (w : World) (b : Nat) (g : Tb) : (w.setCells b 0 (tab9 g).toList).heap.size = w.heap.size := by
  have : ∀ (vs : List Value) (o : Nat) (w : World), (w.setCells b o vs).heap.size = w.heap.size := by
    intro vs
    induction vs with
    | nil => intro o w; rfl
    | cons v vs ih => intro o w; rw [World.setCells, ih]; simp [World.setCell]
  exact this _ _ _
/-- What stays while a word's parts are read. -/
structure SpI (w : World) (s : ByteArray) (wr : World) : Prop where
  bel : Below w.heap.size w wr
  k3 : wr.heap[w.heap.size]? = some (.cells #[.string s] 9 (0, 0))
  k4 : wr.heap[w.heap.size + 1]? = some (.cells (tab9 fun _ _ => false) 107 (0, 0))
theorem SpI.stay {w wr w' : World} {s : ByteArray} (h : SpI w s wr) (k : Below wr.heap.size wr w') : SpI w s w' := ⟨h.bel.trans (k.mono h.bel.size), blkBel k h.k3, blkBel k h.k4⟩
theorem SpI.set {w wr : World} {s : ByteArray} (h : SpI w s wr) {b : Nat} (hb : w.heap.size + 1 < b) (g : Tb) : SpI w s (wr.setCells b 0 (tab9 g).toList) :=
  ⟨bel_setCells (by omega) _ _ _ h.bel, set9_other h.k3 (by omega) g, set9_other h.k4 (by omega) g⟩
theorem SpI.lt {w wr : World} {s : ByteArray} (h : SpI w s wr) : w.heap.size + 1 < wr.heap.size := (Array.getElem?_eq_some_iff.1 h.k4).1
theorem SpI.grown {w wr w' : World} {s : ByteArray} {v : Value} {ts : List Tb} (h : SpI w s wr) (ho : OwnT wr (w.heap.size + 2) v ts) (hg : wr.grownBy w' v.ownBlock) : SpI w s w' :=
  ⟨h.bel.grown hg h.bel.size (fun k hk => by have := (World.ownsRow.lt ho k hk).1; omega), blkGrow hg h.k3 (fun e => by have := (World.ownsRow.lt ho _ e.symm).1; omega), blkGrow hg h.k4 (fun e => by have := (World.ownsRow.lt ho _ e.symm).1; omega)⟩
theorem still_load9 {ops : Array Oper} {w : World} {Q : Act → Prop} {a : Act} {op : Oper} {rest : List Oper} (hgd : op.guard = none) (x : Operand) (ho : op.op = .load 107 x)
    (b o : Nat) (hx : a.eval x = .pointer (some ⟨b, o, none⟩)) (f : Tb) (hc : w.rangeAt b o (tab9 f).toList)
    (h : wpStill Try.prog ops w Q rest (a.put op.dst (.agg (tab9 f)))) : wpStill Try.prog ops w Q (op :: rest) a :=
  still_load_mid hgd 107 x ho b o hx _ _ hc Try.underlying107 rfl (by rw [inf9, Array.length_toList, tab9_size]) (by simpa using h)
theorem tw0 (m : List Tb) (a b : Tb) (h : m.length < (m ++ [a, b]).length) : (m ++ [a, b])[m.length] = a := by simp
theorem tw1 (m : List Tb) (a b : Tb) (h : m.length + 1 < (m ++ [a, b]).length) : (m ++ [a, b])[m.length + 1] = b := by simp
theorem tw2 (m : List Tb) (a : Tb) (h : m.length < (m ++ [a]).length) : (m ++ [a])[m.length] = a := by simp
theorem fold_set : ∀ (vs : List Value) (k : Nat) (arr : Array Value) (i : Nat), k + vs.length ≤ arr.size →
    ((vs.zipIdx k).foldl (fun cs x => cs.setIfInBounds (0 + x.2) x.1) arr)[i]? = if k ≤ i ∧ i < k + vs.length then vs[i - k]? else arr[i]?
  | [], k, arr, i, _ => by rw [if_neg (by simp)]; rfl
  | v :: vs, k, arr, i, h => by
    rw [List.zipIdx_cons, List.foldl_cons, fold_set vs (k + 1) _ i (by simp at h ⊢; omega)]
    simp only [List.length_cons] at h ⊢
    by_cases hk : i = k
    · subst hk
      rw [if_neg (by omega), if_pos ⟨by omega, by omega⟩, Nat.sub_self, List.getElem?_cons_zero, Array.getElem?_setIfInBounds]
      rw [Nat.zero_add, if_pos rfl, if_pos (by omega)]
    · by_cases hk2 : k + 1 ≤ i ∧ i < k + 1 + vs.length
      · rw [if_pos hk2, if_pos ⟨by omega, by omega⟩, show i - k = (i - (k + 1)) + 1 by omega, List.getElem?_cons_succ]
      · rw [if_neg hk2, if_neg (by omega), Array.getElem?_setIfInBounds, if_neg (fun e => hk (by omega))]
theorem fill9 (arr c : Array Value) (h : c.size = arr.size) : Instr.fill (fun i => some (i * c.size, c.size)) arr [(0, .agg c)] = some c := by
  unfold Instr.fill
  simp only [Value.cells, Nat.zero_mul]
  rw [if_neg (by simp; omega)]
  unfold Instr.fill
  congr 1
  apply Array.ext_getElem?
  intro i
  rw [← Array.foldl_toList, Array.toList_zipIdx]
  rw [fold_set c.toList 0 arr i (by simp; omega)]
  by_cases hi : i < c.size
  · rw [if_pos ⟨by omega, by simpa using hi⟩]; simp
  · rw [if_neg (by simp; omega), Array.getElem?_eq_none (by omega), Array.getElem?_eq_none (by omega)]
theorem step_build9 {ops : Array Oper} {o : Oper} {a : Act} {w : World} {K : Act → World → Prop} {Q : Exit → Act → World → Prop} {E : Prop} (hgd : o.guard = none) (x : Operand) (ho : o.op = .buildSlice 138 1 #[(0, x)]) (f : Tb) (hx : a.eval x = .agg (tab9 f))
    (h : K (a.put o.dst (.slice (some ⟨w.heap.size, 0, none⟩) 1 1)) (w.alloc (.cells (tab9 f) 107))) : if Region.wanted o (yielded ops a.tmps) = true then Oper.wp Try.prog o a w K Q else E := by
  rw [if_pos (by simp [Region.wanted, hgd])]
  obtain ⟨i, z, hi, hz, h2, _, _⟩ := elSpans.inf
  refine wp_buildSlice 138 107 1 _ ho (tab9 f) i z elSpans.ul hi hz (by rw [h2]; decide) (by rw [h2]; decide) ?_ h
  rw [h2]
  have key := fill9 ((Array.range (1 * 81)).map (z.cells[· % z.cells.size]!)) (tab9 f) (by rw [tab9_size]; simp)
  rw [tab9_size] at key
  simpa [hx] using key
theorem step_store9 {ops : Array Oper} {o : Oper} {a : Act} {w : World} {K : Act → World → Prop} {Q : Exit → Act → World → Prop} {E : Prop} (hgd : o.guard = none) (x y : Operand) (ho : o.op = .store 107 x y) (b : Nat) (hx : a.eval x = .pointer (some ⟨b, 0, none⟩)) (f : Tb) (hy : a.eval y = .agg (tab9 f)) (ht : w.there b 0 (tab9 f).size)
    (h : K (a.put o.dst undef) (w.setCells b 0 (tab9 f).toList)) : if Region.wanted o (yielded ops a.tmps) = true then Oper.wp Try.prog o a w K Q else E := by
  rw [if_pos (by simp [Region.wanted, hgd])]
  exact wp_store_mid 107 x y ho b 0 _ hx hy ht (inf9s _) (tab9_one _) h
theorem step_load9 {ops : Array Oper} {o : Oper} {a : Act} {w : World} {K : Act → World → Prop} {Q : Exit → Act → World → Prop} {E : Prop} (hgd : o.guard = none) (x : Operand) (ho : o.op = .load 107 x) (b off : Nat) (hx : a.eval x = .pointer (some ⟨b, off, none⟩)) (f : Tb) (hc : w.rangeAt b off (tab9 f).toList)
    (h : K (a.put o.dst (.agg (tab9 f))) w) : if Region.wanted o (yielded ops a.tmps) = true then Oper.wp Try.prog o a w K Q else E := by
  rw [if_pos (by simp [Region.wanted, hgd])]
  exact wp_load_mid 107 x ho b off hx _ _ hc Try.underlying107 rfl (by rw [inf9, Array.length_toList, tab9_size]) (by simpa using h)
set_option maxHeartbeats 8000000 in
theorem spansOf_c (t : Re) (ht : t.wf) (hl : t.flat.length ≤ 60) (s : ByteArray) (hs8 : s.size ≤ 8) (hls : letS s) (v : Value) (w : World) (h : Pairs S w v t.flat) : Calls Try.prog 91 #[v, .string s] w (RTb w (spT (ltrs s) t)) := by
  obtain ⟨e, he⟩ : ∃ e, e = t.flat := ⟨_, rfl⟩
  have hpe := parse_flat ht
  rw [← he] at hl h hpe
  clear he
  obtain ⟨a, cap, rfl, _⟩ := h.shape
  have H := Lib.hid h; clear h
  have HE := Lib.hid hpe; clear hpe
  have HWL := Lib.hid (ltrs_len s)
  have HLS := Lib.hid hls; clear hls
  obtain ⟨n, hn⟩ : ∃ n, n = s.size := ⟨_, rfl⟩
  have hn8 : n ≤ 8 := by omega
  rw [← hn] at HWL
  have HN := Lib.hid hn
  have hbl : (s.size : Int) = (n : Int) := by omega
  obtain ⟨W, hW⟩ : ∃ W, W = (w.alloc (.cells #[.string s] 9)).alloc (.cells Try.zeroCells107 107) := ⟨_, rfl⟩
  have HI : Hid (SpI w s W) := Lib.hid (by
    rw [hW]
    exact ⟨((Below.refl _ _).alloc (Nat.le_refl _) _).alloc (by simp) _, blkOld (blkNew _ _ rfl), by rw [← zero9]; exact blkNew _ _ (by simp)⟩)
  have HW := Lib.hid hW; clear hW
  go_enter Try.func91, Try.ntmps91
  go_wp2_with fail
  rw [← HW.out]
  clear HW
  have c3 := cell_of_row W w.heap.size 0 _ _ _ HI.out.k3
  simp only [List.getElem?_toArray, List.getElem?_cons_zero] at c3
  go_wp2_with fail
  clear c3
  go_loopw [6, 17] (fun v i wr => ∃ (k : Nat) (st : List Re), k ≤ e.length ∧ i = .int .i64 k ∧ Hid (SpI w s wr) ∧ Hid (parse (e.take k) = some st) ∧ Hid (OwnT wr (w.heap.size + 2) v (tbs (ltrs s) st))) (fun _ i _ => e.length - (intOf i).toNat)
  case atStart => exact ⟨0, [], by omega, rfl, HI, rfl, OwnT.nil _ _⟩
  case round =>
    clear HI
    obtain ⟨k, st, hk, rfl, hI, hp, ho⟩ := hrel
    generalize wr = wq at *
    by_cases hlt : k < e.length
    · obtain ⟨b, off, rfl, c0, c1⟩ := (H.out.stay (kpB hI.out.bel)).at hlt
      have htp := take_parse e k hlt
      obtain ⟨x, y, hxy⟩ : ∃ x y, e[k] = (x, y) := ⟨_, _, rfl⟩
      rw [hxy] at c0 c1 htp
      rw [hp.out] at htp
      clear hxy
      cases hs' : push (some st) (x, y) with
      | none => exact absurd HE.out (by rw [noParse (by rw [htp, hs'])]; nofun)
      | some s' =>
      rw [hs'] at htp
      have Hp' := Lib.hid htp; clear htp
      have hsl : st.length ≤ k := by have := len_flats st; rw [parse_flats hp.out, List.length_take] at this; omega
      have hnl := tbs_len (ltrs s) st
      obtain ⟨w3, hw3⟩ : ∃ z, z = ((wq.alloc (.cells #[.int .i64 x, .int .i64 y] 67)).alloc (.cells Try.zeroCells107 107)).alloc (.cells Try.zeroCells107 107) := ⟨_, rfl⟩
      obtain ⟨bQ, hQ⟩ : ∃ bQ, bQ = wq.heap.size := ⟨_, rfl⟩
      have hb3 : Below wq.heap.size wq w3 := by rw [hw3]; exact (((Below.refl _ _).alloc (Nat.le_refl _) _).alloc (by simp) _).alloc (by simp; omega) _
      have K8 : Hid (w3.heap[bQ]? = some (.cells #[.int .i64 x, .int .i64 y] 67 (0, 0))) := by rw [hw3]; exact blkOld (blkOld (blkNew _ _ hQ))
      have K9 : Hid (w3.heap[bQ + 1]? = some (.cells (tab9 fun _ _ => false) 107 (0, 0))) := by rw [hw3, ← zero9]; exact blkOld (blkNew _ _ (by simp [hQ]))
      have K10 : Hid (w3.heap[bQ + 1 + 1]? = some (.cells (tab9 fun _ _ => false) 107 (0, 0))) := by rw [hw3, ← zero9]; exact blkNew _ _ (by simp [hQ])
      have HO3 := Lib.hid (ho.out.stay hb3)
      have HI3 := Lib.hid (hI.out.stay hb3)
      have HLO : Hid (∀ g, u6.ownBlock = some g → g < bQ) := Lib.hid (fun g hg => by rw [hQ]; exact ho.out.low g hg)
      have hQ2 : w.heap.size + 1 < bQ := by rw [hQ]; exact hI.out.lt
      have HW3 := Lib.hid hw3; have HQ := Lib.hid hQ
      clear hw3 hQ hb3 ho hI
      have HPT := Lib.hid (push_tbs (ltrs s) hs'); clear hs'
      rw [HWL.out] at HPT
      have hk60 : k < 60 := by omega
      have hpn := hnl
      obtain ⟨ts, hts⟩ : ∃ z, z = tbs (ltrs s) st := ⟨_, rfl⟩
      rw [← hts] at HO3 hpn
      obtain ⟨N, hN⟩ : ∃ N, N = pNeeds x := ⟨_, rfl⟩
      obtain ⟨M, hM⟩ : ∃ M, M = ts.length - N := ⟨_, rfl⟩
      have hcase : (N = 0 ∧ M = ts.length) ∨ (N = 1 ∧ ∃ m A, ts = m ++ [A] ∧ m.length = M) ∨ (N = 2 ∧ ∃ m A B, ts = m ++ [A, B] ∧ m.length = M) := by
        rw [hM, hN, hts]
        rcases HPT.out with ⟨rfl, _⟩ | ⟨rfl, _⟩ | ⟨rfl, _⟩ | ⟨rfl, m, A, B, hm, _⟩ | ⟨rfl, m, A, B, hm, _⟩ | ⟨rfl, m, A, B, hm, _⟩ | ⟨rfl, m, A, hm, _⟩ | ⟨rfl, m, A, hm, _⟩
        · exact .inl ⟨rfl, by rw [show pNeeds 1 = 0 from rfl]; rfl⟩
        · exact .inl ⟨rfl, by rw [show pNeeds 2 = 0 from rfl]; rfl⟩
        · exact .inl ⟨rfl, by rw [show pNeeds 3 = 0 from rfl]; rfl⟩
        · exact .inr (.inr ⟨rfl, m, A, B, hm, by rw [hm, show pNeeds 4 = 2 from rfl]; simp⟩)
        · exact .inr (.inr ⟨rfl, m, A, B, hm, by rw [hm, show pNeeds 5 = 2 from rfl]; simp⟩)
        · exact .inr (.inr ⟨rfl, m, A, B, hm, by rw [hm, show pNeeds 6 = 2 from rfl]; simp⟩)
        · exact .inr (.inl ⟨rfl, m, A, hm, by rw [hm, show pNeeds 7 = 1 from rfl]; simp⟩)
        · exact .inr (.inl ⟨rfl, m, A, hm, by rw [hm, show pNeeds 8 = 1 from rfl]; simp⟩)
      have hNM : ts.length = M + N ∧ N ≤ 2 := by
        rcases hcase with ⟨h1, h2⟩ | ⟨h1, m, A, h2, h3⟩ | ⟨h1, m, A, B, h2, h3⟩
        · exact ⟨by rw [h1, h2]; rfl, by omega⟩
        · exact ⟨by rw [h2, h1, ← h3]; simp, by omega⟩
        · exact ⟨by rw [h2, h1, ← h3]; simp, by omega⟩
      obtain ⟨L, hL⟩ : ∃ L, L = ts.length := ⟨_, rfl⟩
      have hL60 : L ≤ 60 := by omega
      have hLMN : L = M + N := by rw [hL]; exact hNM.1
      have hN2 : N ≤ 2 := hNM.2
      obtain ⟨aS, cS, hv, _⟩ := HO3.out.shape
      rw [← hL] at hv
      subst hv
      have hLM : (L : Int) - (N : Int) = (M : Int) := by omega
      have hwM : IntKind.i64.wrap (M : Int) = (M : Int) := IntWalk.i64_in _ (by omega)
      have HCASE := Lib.hid hcase; have HL := Lib.hid hL; have HNx := Lib.hid hN; have HTS := Lib.hid hts
      have HLMN := Lib.hid hLMN
      clear hcase hNM hM hN hts hL hnl hpn hsl hLMN
      obtain ⟨d0, d1, _, _⟩ := blk2 K8.out
      go_wp2_with fail
      rw [← HW3.out, ← HQ.out]
      clear HW3
      refine (needs_x x y w3).mono ?_
      rintro e4 w4 ⟨rfl, hw4⟩
      rw [← HNx.out]
      have hb4 : Below w3.heap.size w3 w4 := by rw [← hw4]; exact (Below.refl _ _).alloc (Nat.le_refl _) _
      have K8 := Lib.hid (blkBel hb4 K8.out)
      have K9 := Lib.hid (blkBel hb4 K9.out)
      have K10 := Lib.hid (blkBel hb4 K10.out)
      have HO4 := Lib.hid (HO3.out.stay hb4)
      have HI4 := Lib.hid (HI3.out.stay hb4)
      clear hb4 hw4 d0 d1 HO3 HI3
      obtain ⟨d0, d1, _, _⟩ := blk2 K8.out
      go_wp2_with fail
      refine (needs_x x y w4).mono ?_
      rintro e5 w5 ⟨rfl, hw5⟩
      rw [← HNx.out]
      have hb5 : Below w4.heap.size w4 w5 := by rw [← hw5]; exact (Below.refl _ _).alloc (Nat.le_refl _) _
      have K8 := Lib.hid (blkBel hb5 K8.out)
      have K9 := Lib.hid (blkBel hb5 K9.out)
      have K10 := Lib.hid (blkBel hb5 K10.out)
      have HO5 := Lib.hid (HO4.out.stay hb5)
      have HI5 := Lib.hid (HI4.out.stay hb5)
      clear hb5 hw5 d0 d1 HO4 HI4
      go_upto_if 28 with fail
      go_cut [11] from 28 to 38 (fun s11 wx => s11 = .int .i64 M ∧ ∃ A B : Tb, Hid (SpI w s wx) ∧ Hid (OwnT wx (w.heap.size + 2) (.slice aS L cS) ts) ∧ Hid (wx.heap[bQ]? = some (.cells #[.int .i64 x, .int .i64 y] 67 (0, 0))) ∧ Hid (wx.heap[bQ + 1]? = some (.cells (tab9 A) 107 (0, 0))) ∧ Hid (wx.heap[bQ + 1 + 1]? = some (.cells (tab9 B) 107 (0, 0))) ∧ Hid (N = 0 ∨ (N = 1 ∧ ∃ m, ts = m ++ [A] ∧ m.length = M) ∨ (N = 2 ∧ ∃ m, ts = m ++ [A, B] ∧ m.length = M)))
      case first =>
        by_cases hN0 : N = 0
        · have hNI : ((0 : Int) < (N : Int)) = False := by simp; omega
          have hNN : (0 < N) = False := by simp; omega
          go_wp2_with fail
          go_meet
          exact ⟨rfl, _, _, HI5, HO5, K8, K9, K10, .inl hN0⟩
        · rw [show decide (0 < N) = true by simp; omega]
          obtain ⟨L1, hL1⟩ : ∃ L1, L = L1 + 1 := ⟨L - 1, by have := HLMN.out; omega⟩
          have hL1I : (L : Int) - 1 = (L1 : Int) := by omega
          have hwL1 : IntKind.i64.wrap (L1 : Int) = (L1 : Int) := IntWalk.i64_in _ (by omega)
          have hMLI : (M : Int) < (L : Int) := by have := HLMN.out; omega
          have hL1L : (L1 : Int) < (L : Int) := by omega
          obtain ⟨A, B, hAB, hAg, hBg⟩ : ∃ A B : Tb, (N = 0 ∨ (N = 1 ∧ ∃ m, ts = m ++ [A] ∧ m.length = M) ∨ (N = 2 ∧ ∃ m, ts = m ++ [A, B] ∧ m.length = M)) ∧ (∃ h : M < ts.length, ts[M] = A) ∧ (∃ h : L1 < ts.length, ts[L1] = B) := by
            have hLL := HL.out
            have hLN := HLMN.out
            rcases HCASE.out with ⟨h1, _⟩ | ⟨h1, m, A, h2, h3⟩ | ⟨h1, m, A, B, h2, h3⟩
            · exact absurd h1 hN0
            · refine ⟨A, A, .inr (.inl ⟨h1, m, h2, h3⟩), ⟨by omega, ?_⟩, ⟨by omega, ?_⟩⟩
              · subst h2; subst h3; simp
              · have : L1 = m.length := by omega
                subst this; subst h2; simp
            · refine ⟨A, B, .inr (.inr ⟨h1, m, h2, h3⟩), ⟨by omega, ?_⟩, ⟨by omega, ?_⟩⟩
              · subst h2; subst h3; simp
              · have : L1 = m.length + 1 := by omega
                subst this; subst h2; simp
          obtain ⟨g, cS', hv', _, hgl, _, hgr⟩ := HO5.out.blk (by rw [← HL.out]; omega)
          rw [← HL.out] at hv'
          cases hv'
          obtain ⟨hA1, hA2⟩ := hAg
          obtain ⟨hB1, hB2⟩ := hBg
          have hrA := hgr M hA1
          rw [hA2] at hrA
          have hrB := hgr L1 hB1
          rw [hB2] at hrB
          have HAB := Lib.hid hAB; have HL1 := Lib.hid hL1
          have hgQ : g ≠ bQ + 1 := by have := HLO.out g rfl; omega
          clear hgr hA1 hA2 hB1 hB2 hAB hL1
          have HI5 := Lib.hid (HI5.out.stay (Below.refl _ _).drew)
          have HO5 := Lib.hid (HO5.out.stay (Below.refl _ _).drew)
          have K8 : Hid (w5.drew.heap[bQ]? = some (.cells #[.int .i64 x, .int .i64 y] 67 (0, 0))) := K8
          have K9 : Hid (w5.drew.heap[bQ + 1]? = some (.cells (tab9 fun _ _ => false) 107 (0, 0))) := K9
          have K10 : Hid (w5.drew.heap[bQ + 1 + 1]? = some (.cells (tab9 fun _ _ => false) 107 (0, 0))) := K10
          have hrAD : w5.drew.rangeAt g (M * 81) (tab9 A).toList := hrA
          have hrBD : w5.drew.rangeAt g (L1 * 81) (tab9 B).toList := hrB
          have HT9 := Lib.hid (there9 K9.out A)
          obtain ⟨we, hwe⟩ : ∃ z, z = w5.drew.setCells (bQ + 1) 0 (tab9 A).toList := ⟨_, rfl⟩
          have K8 : Hid (we.heap[bQ]? = some (.cells #[.int .i64 x, .int .i64 y] 67 (0, 0))) := Lib.hid (by rw [hwe]; exact set9_other K8.out (by omega) _)
          have K9 : Hid (we.heap[bQ + 1]? = some (.cells (tab9 A) 107 (0, 0))) := Lib.hid (by rw [hwe]; exact set9 K9.out _)
          have K10 : Hid (we.heap[bQ + 1 + 1]? = some (.cells (tab9 fun _ _ => false) 107 (0, 0))) := Lib.hid (by rw [hwe]; exact set9_other K10.out (by omega) _)
          have HIe : Hid (SpI w s we) := Lib.hid (by rw [hwe]; exact HI5.out.set (by omega) _)
          have HOe : Hid (OwnT we (w.heap.size + 2) (.slice (some ⟨g, 0, none⟩) L cS) ts) := Lib.hid (by rw [hwe]; exact HO5.out.set (fun q hq => by have := HLO.out q hq; omega) _)
          have hrBe : we.rangeAt g (L1 * 81) (tab9 B).toList := by rw [hwe]; exact World.rangeAt_setCells_apart hrBD _ _ _ (.inl hgQ)
          have HWe := Lib.hid hwe; clear hwe HI5 HO5
          have HT10 := Lib.hid (there9 K10.out B)
          obtain ⟨w6, hw6⟩ : ∃ z, z = we.setCells (bQ + 1 + 1) 0 (tab9 B).toList := ⟨_, rfl⟩
          have K8 : Hid (w6.heap[bQ]? = some (.cells #[.int .i64 x, .int .i64 y] 67 (0, 0))) := Lib.hid (by rw [hw6]; exact set9_other K8.out (by omega) _)
          have K9 : Hid (w6.heap[bQ + 1]? = some (.cells (tab9 A) 107 (0, 0))) := Lib.hid (by rw [hw6]; exact set9_other K9.out (by omega) _)
          have K10 : Hid (w6.heap[bQ + 1 + 1]? = some (.cells (tab9 B) 107 (0, 0))) := Lib.hid (by rw [hw6]; exact set9 K10.out _)
          have HI6 : Hid (SpI w s w6) := Lib.hid (by rw [hw6]; exact HIe.out.set (by omega) _)
          have HO6 : Hid (OwnT w6 (w.heap.size + 2) (.slice (some ⟨g, 0, none⟩) L cS) ts) := Lib.hid (by rw [hw6]; exact HOe.out.set (fun q hq => by have := HLO.out q hq; omega) _)
          have HW6 := Lib.hid hw6; clear hw6 HIe HOe hrA hrB
          go_wp2_with fail
          refine wp_region_inv2 [(2, 0), (2, 1), (3, 2), (6, 5), (7, 6), (8, 4), (8, 7), (9, 8), (10, 3), (11, 9), (11, 10)] (fun listed a w' => ∃ (b0 b1 b2 b3 b4 b5 b6 b7 b8 b9 b10 b11 : Bool), listed = #[b0, b1, b2, b3, b4, b5, b6, b7, b8, b9, b10, b11] ∧ a = { tmps := #[Value.slice (some { block := b, off := off }) e.length cap, Value.string s, undef, Value.pointer (some { block := w.heap.size, off := 0 }), Value.pointer (some { block := w.heap.size + 1, off := 0 }), Value.int IntKind.i64 ↑n, Value.slice (some { block := g, off := 0 }) L cS, undef, Value.pointer (some { block := bQ, off := 0 }), Value.pointer (some { block := bQ + 1, off := 0 }), Value.pointer (some { block := bQ + 1 + 1, off := 0 }), Value.int IntKind.i64 ↑M, u12, Value.string s, Value.int IntKind.i64 ↑n, Value.slice (some { block := b, off := off }) e.length cap, Value.int IntKind.i64 ↑e.length, Value.int IntKind.i64 ↑k, Value.bool true, Value.pointer (some { block := b, off := off + k * 2 }), Value.agg #[Value.int IntKind.i64 x, Value.int IntKind.i64 y], Value.slice (some { block := g, off := 0 }) L cS, Value.int IntKind.i64 ↑L, Value.agg #[Value.int IntKind.i64 x, Value.int IntKind.i64 y], Value.int IntKind.i64 ↑N, Value.int IntKind.i64 ↑M, Value.agg #[Value.int IntKind.i64 x, Value.int IntKind.i64 y], Value.int IntKind.i64 ↑N, Value.bool true, cond b0 (.slice (some ⟨g, 0, none⟩) L cS) (u29), cond b1 (.int .i64 M) (u30), cond b2 (.pointer (some ⟨g, M * 81, none⟩)) (u31), cond b3 (.agg (tab9 A)) (u32), cond b4 (.slice (some ⟨g, 0, none⟩) L cS) (u33), cond b5 (.slice (some ⟨g, 0, none⟩) L cS) (u34), cond b6 (.int .i64 L) (u35), cond b7 (.int .i64 L1) (u36), cond b8 (.pointer (some ⟨g, L1 * 81, none⟩)) (u37), cond b9 (.agg (tab9 B)) (u38), u39, u40, u41, u42, u43, u44, u45, u46, u47, u48, u49, u50, u51, u52, u53, u54, u55, u56, u57, u58, u59, u60, u61, u62, u63, u64, u65, u66, u67, u68, u69, u70, u71, u72, u73, u74, u75, u76, u77, u78, u79, u80, u81, u82, undef, undef, undef], defers := [] } ∧ Hid ((b10 = false → w' = w5.drew) ∧ (b10 = true → b11 = false → w' = we) ∧ (b11 = true → w' = w6))) (fun G => ∀ (w' : World), (w' = w6) → G { tmps := #[Value.slice (some { block := b, off := off }) e.length cap, Value.string s, undef, Value.pointer (some { block := w.heap.size, off := 0 }), Value.pointer (some { block := w.heap.size + 1, off := 0 }), Value.int IntKind.i64 ↑n, Value.slice (some { block := g, off := 0 }) L cS, undef, Value.pointer (some { block := bQ, off := 0 }), Value.pointer (some { block := bQ + 1, off := 0 }), Value.pointer (some { block := bQ + 1 + 1, off := 0 }), Value.int IntKind.i64 ↑M, u12, Value.string s, Value.int IntKind.i64 ↑n, Value.slice (some { block := b, off := off }) e.length cap, Value.int IntKind.i64 ↑e.length, Value.int IntKind.i64 ↑k, Value.bool true, Value.pointer (some { block := b, off := off + k * 2 }), Value.agg #[Value.int IntKind.i64 x, Value.int IntKind.i64 y], Value.slice (some { block := g, off := 0 }) L cS, Value.int IntKind.i64 ↑L, Value.agg #[Value.int IntKind.i64 x, Value.int IntKind.i64 y], Value.int IntKind.i64 ↑N, Value.int IntKind.i64 ↑M, Value.agg #[Value.int IntKind.i64 x, Value.int IntKind.i64 y], Value.int IntKind.i64 ↑N, Value.bool true, .slice (some ⟨g, 0, none⟩) L cS, .int .i64 M, .pointer (some ⟨g, M * 81, none⟩), .agg (tab9 A), .slice (some ⟨g, 0, none⟩) L cS, .slice (some ⟨g, 0, none⟩) L cS, .int .i64 L, .int .i64 L1, .pointer (some ⟨g, L1 * 81, none⟩), .agg (tab9 B), u39, u40, u41, u42, u43, u44, u45, u46, u47, u48, u49, u50, u51, u52, u53, u54, u55, u56, u57, u58, u59, u60, u61, u62, u63, u64, u65, u66, u67, u68, u69, u70, u71, u72, u73, u74, u75, u76, u77, u78, u79, u80, u81, u82, undef, undef, undef], defers := [] } w') (by kernel_rfl) (by kernel_rfl) (by kernel_rfl) (by kernel_rfl) ?_ ?_ ?_ ?_
          · exact ⟨false, false, false, false, false, false, false, false, false, false, false, false, rfl, rfl, Lib.hid ⟨fun _ => rfl, nofun, nofun⟩⟩
          · refine StepsU.cons ?_ ?_
            · intro Q E0 listed a w' hI hM hk haft K hK
              obtain ⟨b0, b1, b2, b3, b4, b5, b6, b7, b8, b9, b10, b11, hl, ha, HF⟩ := hI
              subst hl; subst ha
              obtain ⟨G, G10, G11⟩ := HF.out
              clear HF
              have hk' : b0 = false := hk
              subst hk'
              clear hk
              obtain rfl : b2 = false := by cases b2 with | false => rfl | true => exact absurd (hM 2 0 rfl rfl) Bool.false_ne_true
              obtain rfl : b3 = false := by cases b3 with | false => rfl | true => exact absurd (hM 3 2 rfl rfl) Bool.false_ne_true
              obtain rfl : b10 = false := by cases b10 with | false => rfl | true => exact absurd (hM 10 3 rfl rfl) Bool.false_ne_true
              obtain rfl : b11 = false := by cases b11 with | false => rfl | true => exact absurd (hM 11 10 rfl rfl) Bool.false_ne_true
              clear haft
              obtain rfl := G rfl
              go_simp
              exact hK _ _ ⟨true, b1, false, false, b4, b5, b6, b7, b8, b9, false, false, rfl, rfl, Lib.hid ⟨fun _ => rfl, nofun, nofun⟩⟩
            refine StepsU.cons ?_ ?_
            · intro Q E0 listed a w' hI hM hk haft K hK
              obtain ⟨b0, b1, b2, b3, b4, b5, b6, b7, b8, b9, b10, b11, hl, ha, HF⟩ := hI
              subst hl; subst ha
              obtain ⟨G, G10, G11⟩ := HF.out
              clear HF
              have hk' : b1 = false := hk
              subst hk'
              clear hk
              obtain rfl : b2 = false := by cases b2 with | false => rfl | true => exact absurd (hM 2 1 rfl rfl) Bool.false_ne_true
              obtain rfl : b3 = false := by cases b3 with | false => rfl | true => exact absurd (hM 3 2 rfl rfl) Bool.false_ne_true
              obtain rfl : b10 = false := by cases b10 with | false => rfl | true => exact absurd (hM 10 3 rfl rfl) Bool.false_ne_true
              obtain rfl : b11 = false := by cases b11 with | false => rfl | true => exact absurd (hM 11 10 rfl rfl) Bool.false_ne_true
              clear haft
              obtain rfl := G rfl
              go_simp
              exact hK _ _ ⟨b0, true, false, false, b4, b5, b6, b7, b8, b9, false, false, rfl, rfl, Lib.hid ⟨fun _ => rfl, nofun, nofun⟩⟩
            refine StepsU.cons ?_ ?_
            · intro Q E0 listed a w' hI hM hk haft K hK
              obtain ⟨b0, b1, b2, b3, b4, b5, b6, b7, b8, b9, b10, b11, hl, ha, HF⟩ := hI
              subst hl; subst ha
              obtain ⟨G, G10, G11⟩ := HF.out
              clear HF
              have hk' : b2 = false := hk
              subst hk'
              clear hk
              obtain rfl : b3 = false := by cases b3 with | false => rfl | true => exact absurd (hM 3 2 rfl rfl) Bool.false_ne_true
              obtain rfl : b10 = false := by cases b10 with | false => rfl | true => exact absurd (hM 10 3 rfl rfl) Bool.false_ne_true
              obtain rfl : b11 = false := by cases b11 with | false => rfl | true => exact absurd (hM 11 10 rfl rfl) Bool.false_ne_true
              obtain rfl : b0 = true := haft ⟨0, .data⟩ (by simp) rfl
              obtain rfl : b1 = true := haft ⟨1, .data⟩ (by simp) rfl
              clear haft
              obtain rfl := G rfl
              go_simp
              exact hK _ _ ⟨true, true, true, false, b4, b5, b6, b7, b8, b9, false, false, rfl, rfl, Lib.hid ⟨fun _ => rfl, nofun, nofun⟩⟩
            refine StepsU.cons ?_ ?_
            · intro Q E0 listed a w' hI hM hk haft K hK
              obtain ⟨b0, b1, b2, b3, b4, b5, b6, b7, b8, b9, b10, b11, hl, ha, HF⟩ := hI
              subst hl; subst ha
              obtain ⟨G, G10, G11⟩ := HF.out
              clear HF
              have hk' : b3 = false := hk
              subst hk'
              clear hk
              obtain rfl : b10 = false := by cases b10 with | false => rfl | true => exact absurd (hM 10 3 rfl rfl) Bool.false_ne_true
              obtain rfl : b11 = false := by cases b11 with | false => rfl | true => exact absurd (hM 11 10 rfl rfl) Bool.false_ne_true
              obtain rfl : b2 = true := haft ⟨2, .data⟩ (by simp) rfl
              obtain rfl : b0 = true := hM 2 0 rfl rfl
              obtain rfl : b1 = true := hM 2 1 rfl rfl
              clear haft
              obtain rfl := G rfl
              refine step_load9 rfl (.tmp 31) rfl g (M * 81) rfl A hrAD ?_
              exact hK _ _ ⟨true, true, true, true, b4, b5, b6, b7, b8, b9, false, false, rfl, rfl, Lib.hid ⟨fun _ => rfl, nofun, nofun⟩⟩
            refine StepsU.cons ?_ ?_
            · intro Q E0 listed a w' hI hM hk haft K hK
              obtain ⟨b0, b1, b2, b3, b4, b5, b6, b7, b8, b9, b10, b11, hl, ha, HF⟩ := hI
              subst hl; subst ha
              obtain ⟨G, G10, G11⟩ := HF.out
              clear HF
              have hk' : b4 = false := hk
              subst hk'
              clear hk
              obtain rfl : b8 = false := by cases b8 with | false => rfl | true => exact absurd (hM 8 4 rfl rfl) Bool.false_ne_true
              obtain rfl : b9 = false := by cases b9 with | false => rfl | true => exact absurd (hM 9 8 rfl rfl) Bool.false_ne_true
              obtain rfl : b11 = false := by cases b11 with | false => rfl | true => exact absurd (hM 11 9 rfl rfl) Bool.false_ne_true
              clear haft
              go_simp
              exact hK _ _ ⟨b0, b1, b2, b3, true, b5, b6, b7, false, false, b10, false, rfl, rfl, Lib.hid ⟨G, G10, nofun⟩⟩
            refine StepsU.cons ?_ ?_
            · intro Q E0 listed a w' hI hM hk haft K hK
              obtain ⟨b0, b1, b2, b3, b4, b5, b6, b7, b8, b9, b10, b11, hl, ha, HF⟩ := hI
              subst hl; subst ha
              obtain ⟨G, G10, G11⟩ := HF.out
              clear HF
              have hk' : b5 = false := hk
              subst hk'
              clear hk
              obtain rfl : b6 = false := by cases b6 with | false => rfl | true => exact absurd (hM 6 5 rfl rfl) Bool.false_ne_true
              obtain rfl : b7 = false := by cases b7 with | false => rfl | true => exact absurd (hM 7 6 rfl rfl) Bool.false_ne_true
              obtain rfl : b8 = false := by cases b8 with | false => rfl | true => exact absurd (hM 8 7 rfl rfl) Bool.false_ne_true
              obtain rfl : b9 = false := by cases b9 with | false => rfl | true => exact absurd (hM 9 8 rfl rfl) Bool.false_ne_true
              obtain rfl : b11 = false := by cases b11 with | false => rfl | true => exact absurd (hM 11 9 rfl rfl) Bool.false_ne_true
              clear haft
              go_simp
              exact hK _ _ ⟨b0, b1, b2, b3, b4, true, false, false, false, false, b10, false, rfl, rfl, Lib.hid ⟨G, G10, nofun⟩⟩
            refine StepsU.cons ?_ ?_
            · intro Q E0 listed a w' hI hM hk haft K hK
              obtain ⟨b0, b1, b2, b3, b4, b5, b6, b7, b8, b9, b10, b11, hl, ha, HF⟩ := hI
              subst hl; subst ha
              obtain ⟨G, G10, G11⟩ := HF.out
              clear HF
              have hk' : b6 = false := hk
              subst hk'
              clear hk
              obtain rfl : b7 = false := by cases b7 with | false => rfl | true => exact absurd (hM 7 6 rfl rfl) Bool.false_ne_true
              obtain rfl : b8 = false := by cases b8 with | false => rfl | true => exact absurd (hM 8 7 rfl rfl) Bool.false_ne_true
              obtain rfl : b9 = false := by cases b9 with | false => rfl | true => exact absurd (hM 9 8 rfl rfl) Bool.false_ne_true
              obtain rfl : b11 = false := by cases b11 with | false => rfl | true => exact absurd (hM 11 9 rfl rfl) Bool.false_ne_true
              obtain rfl : b5 = true := haft ⟨5, .data⟩ (by simp) rfl
              clear haft
              go_simp
              exact hK _ _ ⟨b0, b1, b2, b3, b4, true, true, false, false, false, b10, false, rfl, rfl, Lib.hid ⟨G, G10, nofun⟩⟩
            refine StepsU.cons ?_ ?_
            · intro Q E0 listed a w' hI hM hk haft K hK
              obtain ⟨b0, b1, b2, b3, b4, b5, b6, b7, b8, b9, b10, b11, hl, ha, HF⟩ := hI
              subst hl; subst ha
              obtain ⟨G, G10, G11⟩ := HF.out
              clear HF
              have hk' : b7 = false := hk
              subst hk'
              clear hk
              obtain rfl : b8 = false := by cases b8 with | false => rfl | true => exact absurd (hM 8 7 rfl rfl) Bool.false_ne_true
              obtain rfl : b9 = false := by cases b9 with | false => rfl | true => exact absurd (hM 9 8 rfl rfl) Bool.false_ne_true
              obtain rfl : b11 = false := by cases b11 with | false => rfl | true => exact absurd (hM 11 9 rfl rfl) Bool.false_ne_true
              obtain rfl : b6 = true := haft ⟨6, .data⟩ (by simp) rfl
              obtain rfl : b5 = true := hM 6 5 rfl rfl
              clear haft
              go_simp
              exact hK _ _ ⟨b0, b1, b2, b3, b4, true, true, true, false, false, b10, false, rfl, rfl, Lib.hid ⟨G, G10, nofun⟩⟩
            refine StepsU.cons ?_ ?_
            · intro Q E0 listed a w' hI hM hk haft K hK
              obtain ⟨b0, b1, b2, b3, b4, b5, b6, b7, b8, b9, b10, b11, hl, ha, HF⟩ := hI
              subst hl; subst ha
              obtain ⟨G, G10, G11⟩ := HF.out
              clear HF
              have hk' : b8 = false := hk
              subst hk'
              clear hk
              obtain rfl : b9 = false := by cases b9 with | false => rfl | true => exact absurd (hM 9 8 rfl rfl) Bool.false_ne_true
              obtain rfl : b11 = false := by cases b11 with | false => rfl | true => exact absurd (hM 11 9 rfl rfl) Bool.false_ne_true
              obtain rfl : b4 = true := haft ⟨4, .data⟩ (by simp) rfl
              obtain rfl : b7 = true := haft ⟨7, .data⟩ (by simp) rfl
              obtain rfl : b6 = true := hM 7 6 rfl rfl
              obtain rfl : b5 = true := hM 6 5 rfl rfl
              clear haft
              go_simp
              exact hK _ _ ⟨b0, b1, b2, b3, true, true, true, true, true, false, b10, false, rfl, rfl, Lib.hid ⟨G, G10, nofun⟩⟩
            refine StepsU.cons ?_ ?_
            · intro Q E0 listed a w' hI hM hk haft K hK
              obtain ⟨b0, b1, b2, b3, b4, b5, b6, b7, b8, b9, b10, b11, hl, ha, HF⟩ := hI
              subst hl; subst ha
              obtain ⟨G, G10, G11⟩ := HF.out
              clear HF
              have hk' : b9 = false := hk
              subst hk'
              clear hk
              obtain rfl : b11 = false := by cases b11 with | false => rfl | true => exact absurd (hM 11 9 rfl rfl) Bool.false_ne_true
              obtain rfl : b8 = true := haft ⟨8, .data⟩ (by simp) rfl
              obtain rfl : b4 = true := hM 8 4 rfl rfl
              obtain rfl : b7 = true := hM 8 7 rfl rfl
              obtain rfl : b6 = true := hM 7 6 rfl rfl
              obtain rfl : b5 = true := hM 6 5 rfl rfl
              clear haft
              have hrW : w'.rangeAt g (L1 * 81) (tab9 B).toList := by cases b10 with | false => (rw [G rfl]; exact hrBD) | true => (rw [G10 rfl rfl]; exact hrBe)
              refine step_load9 rfl (.tmp 37) rfl g (L1 * 81) rfl B hrW ?_
              exact hK _ _ ⟨b0, b1, b2, b3, true, true, true, true, true, true, b10, false, rfl, rfl, Lib.hid ⟨G, G10, nofun⟩⟩
            refine StepsU.cons ?_ ?_
            · intro Q E0 listed a w' hI hM hk haft K hK
              obtain ⟨b0, b1, b2, b3, b4, b5, b6, b7, b8, b9, b10, b11, hl, ha, HF⟩ := hI
              subst hl; subst ha
              obtain ⟨G, G10, G11⟩ := HF.out
              clear HF
              have hk' : b10 = false := hk
              subst hk'
              clear hk
              obtain rfl : b11 = false := by cases b11 with | false => rfl | true => exact absurd (hM 11 10 rfl rfl) Bool.false_ne_true
              obtain rfl : b3 = true := haft ⟨3, .data⟩ (by simp) rfl
              obtain rfl : b2 = true := hM 3 2 rfl rfl
              obtain rfl : b0 = true := hM 2 0 rfl rfl
              obtain rfl : b1 = true := hM 2 1 rfl rfl
              clear haft
              obtain rfl := G rfl
              refine step_store9 rfl (.tmp 9) (.tmp 32) rfl (bQ + 1) rfl A rfl HT9.out ?_
              rw [← HWe.out]
              exact hK _ _ ⟨true, true, true, true, b4, b5, b6, b7, b8, b9, true, false, rfl, rfl, Lib.hid ⟨nofun, fun _ _ => rfl, nofun⟩⟩
            refine StepsU.cons ?_ ?_
            · intro Q E0 listed a w' hI hM hk haft K hK
              obtain ⟨b0, b1, b2, b3, b4, b5, b6, b7, b8, b9, b10, b11, hl, ha, HF⟩ := hI
              subst hl; subst ha
              obtain ⟨G, G10, G11⟩ := HF.out
              clear HF
              have hk' : b11 = false := hk
              subst hk'
              clear hk
              obtain rfl : b9 = true := haft ⟨9, .data⟩ (by simp) rfl
              obtain rfl : b10 = true := haft ⟨10, .chain⟩ (by simp) rfl
              obtain rfl : b8 = true := hM 9 8 rfl rfl
              obtain rfl : b3 = true := hM 10 3 rfl rfl
              obtain rfl : b2 = true := hM 3 2 rfl rfl
              obtain rfl : b4 = true := hM 8 4 rfl rfl
              obtain rfl : b7 = true := hM 8 7 rfl rfl
              obtain rfl : b0 = true := hM 2 0 rfl rfl
              obtain rfl : b1 = true := hM 2 1 rfl rfl
              obtain rfl : b6 = true := hM 7 6 rfl rfl
              obtain rfl : b5 = true := hM 6 5 rfl rfl
              clear haft
              have hG := G10 rfl rfl
              subst hG
              refine step_store9 rfl (.tmp 10) (.tmp 38) rfl (bQ + 1 + 1) rfl B rfl HT10.out ?_
              rw [← HW6.out]
              exact hK _ _ ⟨true, true, true, true, true, true, true, true, true, true, true, true, rfl, rfl, Lib.hid ⟨nofun, fun _ => nofun, fun _ => rfl⟩⟩
            exact StepsU.nil
          · intro G0 hG0 listed a w' hI hall
            obtain ⟨b0, b1, b2, b3, b4, b5, b6, b7, b8, b9, b10, b11, hl, ha, HF⟩ := hI
            subst hl; subst ha
            obtain rfl : b0 = true := hall 0 (by decide)
            obtain rfl : b1 = true := hall 1 (by decide)
            obtain rfl : b2 = true := hall 2 (by decide)
            obtain rfl : b3 = true := hall 3 (by decide)
            obtain rfl : b4 = true := hall 4 (by decide)
            obtain rfl : b5 = true := hall 5 (by decide)
            obtain rfl : b6 = true := hall 6 (by decide)
            obtain rfl : b7 = true := hall 7 (by decide)
            obtain rfl : b8 = true := hall 8 (by decide)
            obtain rfl : b9 = true := hall 9 (by decide)
            obtain rfl : b10 = true := hall 10 (by decide)
            obtain rfl : b11 = true := hall 11 (by decide)
            exact hG0  _ (HF.out.2.2 rfl)
          · intro  w' hFin
            subst hFin
            go_wp2_with fail
            go_meet
            exact ⟨rfl, _, _, HI6, HO6, K8, K9, K10, HAB⟩
      case rest =>
        obtain ⟨hs11, A, B, HI6, HO6, K8, K9, K10, HAB⟩ := hcut
        subst hs11
        generalize wc = w6 at *
        obtain ⟨w7, hw7⟩ : ∃ z, z = w6.alloc (.cells Try.zeroCells107 107) := ⟨_, rfl⟩
        have hb7 : Below w6.heap.size w6 w7 := by rw [hw7]; exact (Below.refl _ _).alloc (Nat.le_refl _) _
        have K12 : Hid (w7.heap[w6.heap.size]? = some (.cells (tab9 fun _ _ => false) 107 (0, 0))) := Lib.hid (by rw [hw7]; exact bxT_zero _)
        have hQR : bQ < w6.heap.size := (Array.getElem?_eq_some_iff.1 K8.out).1
        have hQR1 : bQ + 1 + 1 < w6.heap.size := (Array.getElem?_eq_some_iff.1 K10.out).1
        have K8 := Lib.hid (blkBel hb7 K8.out)
        have K9 := Lib.hid (blkBel hb7 K9.out)
        have K10 := Lib.hid (blkBel hb7 K10.out)
        have HI7 := Lib.hid (HI6.out.stay hb7)
        have HO7 := Lib.hid (HO6.out.stay hb7)
        have HW7 := Lib.hid hw7
        clear hw7 hb7 HI6 HO6
        obtain ⟨d0, d1, _, _⟩ := blk2 K8.out
        have HKK : Hid ((x = 1 ∧ tbs (ltrs s) s' = ts.take M ++ [fun _ _ => false]) ∨ (x = 2 ∧ tbs (ltrs s) s' = ts.take M ++ [up n fun i j => decide (i = j)]) ∨ (x = 3 ∧ tbs (ltrs s) s' = ts.take M ++ [up n fun i j => decide (j = i + 1) && decide ((ltrs s).getD i 0 = y)]) ∨ (x = 4 ∧ tbs (ltrs s) s' = ts.take M ++ [up n (jnS A B)]) ∨ (x = 5 ∧ tbs (ltrs s) s' = ts.take M ++ [up n fun i j => A i j || B i j]) ∨ (x = 6 ∧ tbs (ltrs s) s' = ts.take M ++ [up n fun i j => A i j && B i j]) ∨ (x = 7 ∧ tbs (ltrs s) s' = ts.take M ++ [up n fun i j => !A i j]) ∨ (x = 8 ∧ tbs (ltrs s) s' = ts.take M ++ [stT n A n])) := Lib.hid (by
            have htk : N = 0 → ts.take M = ts := fun h => by
              have h1 := HLMN.out
              have h2 := HL.out
              exact List.take_of_length_le (by omega)
            have htwo : N = 2 → ∀ (m : List Tb) (A1 B1 : Tb), ts = m ++ [A1, B1] → m = ts.take M ∧ A1 = A ∧ B1 = B := fun h m A1 B1 hm => by
              rcases HAB.out with h0 | ⟨h0, _⟩ | ⟨_, m2, h2, h3⟩
              · omega
              · omega
              · have he := hm.symm.trans h2
                have h4 := List.append_inj' he rfl
                have h5 := h4.2
                injection h5 with h5 h6
                injection h6 with h6 _
                refine ⟨?_, h5, h6⟩
                rw [h2, ← h3, List.take_append_of_le_length (Nat.le_refl _), List.take_length]
                exact h4.1
            have hone : N = 1 → ∀ (m : List Tb) (A1 : Tb), ts = m ++ [A1] → m = ts.take M ∧ A1 = A := fun h m A1 hm => by
              rcases HAB.out with h0 | ⟨_, m2, h2, h3⟩ | ⟨h0, _⟩
              · omega
              · have he := hm.symm.trans h2
                have h4 := List.append_inj' he rfl
                have h5 := h4.2
                injection h5 with h5 _
                refine ⟨?_, h5⟩
                rw [h2, ← h3, List.take_append_of_le_length (Nat.le_refl _), List.take_length]
                exact h4.1
              · omega
            rcases HPT.out with ⟨rfl, hn'⟩ | ⟨rfl, hn'⟩ | ⟨rfl, hn'⟩ | ⟨rfl, m, A1, B1, hm, hn'⟩ | ⟨rfl, m, A1, B1, hm, hn'⟩ | ⟨rfl, m, A1, B1, hm, hn'⟩ | ⟨rfl, m, A1, hm, hn'⟩ | ⟨rfl, m, A1, hm, hn'⟩
            · exact .inl ⟨rfl, by rw [hn', ← HTS.out, htk (by rw [HNx.out]; rfl)]⟩
            · exact .inr (.inl ⟨rfl, by rw [hn', ← HTS.out, htk (by rw [HNx.out]; rfl)]⟩)
            · exact .inr (.inr (.inl ⟨rfl, by rw [hn', ← HTS.out, htk (by rw [HNx.out]; rfl)]⟩))
            · obtain ⟨rfl, rfl, rfl⟩ := htwo (by rw [HNx.out]; rfl) m A1 B1 (by rw [HTS.out]; exact hm)
              exact .inr (.inr (.inr (.inl ⟨rfl, hn'⟩)))
            · obtain ⟨rfl, rfl, rfl⟩ := htwo (by rw [HNx.out]; rfl) m A1 B1 (by rw [HTS.out]; exact hm)
              exact .inr (.inr (.inr (.inr (.inl ⟨rfl, hn'⟩))))
            · obtain ⟨rfl, rfl, rfl⟩ := htwo (by rw [HNx.out]; rfl) m A1 B1 (by rw [HTS.out]; exact hm)
              exact .inr (.inr (.inr (.inr (.inr (.inl ⟨rfl, hn'⟩)))))
            · obtain ⟨rfl, rfl⟩ := hone (by rw [HNx.out]; rfl) m A1 (by rw [HTS.out]; exact hm)
              exact .inr (.inr (.inr (.inr (.inr (.inr (.inl ⟨rfl, hn'⟩))))))
            · obtain ⟨rfl, rfl⟩ := hone (by rw [HNx.out]; rfl) m A1 (by rw [HTS.out]; exact hm)
              exact .inr (.inr (.inr (.inr (.inr (.inr (.inr (⟨rfl, hn'⟩))))))))
        go_upto_block 2 with (rw [← HW7.out])
        go_cut [12] from 41 to 75 (fun s12 wx => s12 = .pointer (some ⟨w6.heap.size, 0, none⟩) ∧ ∃ tG : Tb, Hid (SpI w s wx) ∧ Hid (OwnT wx (w.heap.size + 2) (.slice aS L cS) ts) ∧ Hid (wx.heap[w6.heap.size]? = some (.cells (tab9 tG) 107 (0, 0))) ∧ Hid (tbs (ltrs s) s' = ts.take M ++ [tG]))
        case first =>
          clear HPT HW7
          rcases HKK.out with ⟨rfl, hk⟩ | ⟨rfl, hk⟩ | ⟨rfl, hk⟩ | ⟨rfl, hk⟩ | ⟨rfl, hk⟩ | ⟨rfl, hk⟩ | ⟨rfl, hk⟩ | ⟨rfl, hk⟩
          all_goals clear HKK
          · skip
            go_wp2_with fail
            go_meet
            exact ⟨rfl, _, HI7, HO7, K12, Lib.hid hk⟩
          · skip
            obtain ⟨tG, hG⟩ : ∃ tG : Tb, tG = up n fun i j => decide (i = j) := ⟨_, rfl⟩
            rw [← hG] at hk
            have HG := Lib.hid hG; clear hG
            have Hk := Lib.hid hk; clear hk
            go_wp2_with fail
            refine (filled_c (fun i j => decide (i = j)) n hn8 128 #[] bodyS1 w7 (fun i j hij hj w' hb => (eqS_c i j w').mono fun e w'' h => ⟨h.1, 0, h.2⟩)).mono ?_
            rintro e8 w8 ⟨rfl, hb8⟩
            rw [← HG.out]
            have K12 := Lib.hid (blkBel hb8 K12.out)
            have HI8 := Lib.hid (HI7.out.stay hb8)
            have HO8 := Lib.hid (HO7.out.stay hb8)
            clear hb8 HI7 HO7
            have HT12 := Lib.hid (there9 K12.out tG)
            obtain ⟨w9, hw9⟩ : ∃ z, z = w8.setCells w6.heap.size 0 (tab9 tG).toList := ⟨_, rfl⟩
            have K12 : Hid (w9.heap[w6.heap.size]? = some (.cells (tab9 tG) 107 (0, 0))) := Lib.hid (by rw [hw9]; exact set9 K12.out _)
            have HI9 : Hid (SpI w s w9) := Lib.hid (by rw [hw9]; exact HI8.out.set (by omega) _)
            have HO9 : Hid (OwnT w9 (w.heap.size + 2) (.slice aS L cS) ts) := Lib.hid (by rw [hw9]; exact HO8.out.set (fun q hq => by have := HLO.out q hq; omega) _)
            have HW9 := Lib.hid hw9; clear hw9 HI8 HO8
            go_wp2_with (refine wpList_store_mid rfl 107 (.tmp 12) (.tmp 44) rfl w6.heap.size 0 (tab9 tG) rfl rfl HT12.out (inf9s _) (tab9_one _) ?_; rw [← HW9.out])
            go_meet
            exact ⟨rfl, tG, HI9, HO9, K12, Hk⟩
          · skip
            obtain ⟨tG, hG⟩ : ∃ tG : Tb, tG = up n fun i j => decide (j = i + 1) && decide ((ltrs s).getD i 0 = y) := ⟨_, rfl⟩
            rw [← hG] at hk
            have HG := Lib.hid hG; clear hG
            have Hk := Lib.hid hk; clear hk
            go_wp2_with fail
            refine (filled_c (fun i j => decide (j = i + 1) && decide ((ltrs s).getD i 0 = y)) n hn8 129 #[.pointer (some ⟨w.heap.size, 0, none⟩), .pointer (some ⟨bQ, 0, none⟩)] bodyS2 w7 (fun i j hij hj w' hb => ltrS_c (blkBel hb HI7.out.k3) (blkBel hb K8.out) HLS.out hs8 hij (by omega))).mono ?_
            rintro e8 w8 ⟨rfl, hb8⟩
            rw [← HG.out]
            have K12 := Lib.hid (blkBel hb8 K12.out)
            have HI8 := Lib.hid (HI7.out.stay hb8)
            have HO8 := Lib.hid (HO7.out.stay hb8)
            clear hb8 HI7 HO7
            have HT12 := Lib.hid (there9 K12.out tG)
            obtain ⟨w9, hw9⟩ : ∃ z, z = w8.setCells w6.heap.size 0 (tab9 tG).toList := ⟨_, rfl⟩
            have K12 : Hid (w9.heap[w6.heap.size]? = some (.cells (tab9 tG) 107 (0, 0))) := Lib.hid (by rw [hw9]; exact set9 K12.out _)
            have HI9 : Hid (SpI w s w9) := Lib.hid (by rw [hw9]; exact HI8.out.set (by omega) _)
            have HO9 : Hid (OwnT w9 (w.heap.size + 2) (.slice aS L cS) ts) := Lib.hid (by rw [hw9]; exact HO8.out.set (fun q hq => by have := HLO.out q hq; omega) _)
            have HW9 := Lib.hid hw9; clear hw9 HI8 HO8
            go_wp2_with (refine wpList_store_mid rfl 107 (.tmp 12) (.tmp 49) rfl w6.heap.size 0 (tab9 tG) rfl rfl HT12.out (inf9s _) (tab9_one _) ?_; rw [← HW9.out])
            go_meet
            exact ⟨rfl, tG, HI9, HO9, K12, Hk⟩
          · skip
            obtain ⟨tG, hG⟩ : ∃ tG : Tb, tG = up n (jnS A B) := ⟨_, rfl⟩
            rw [← hG] at hk
            have HG := Lib.hid hG; clear hG
            have Hk := Lib.hid hk; clear hk
            go_wp2_with (first | (refine wpList_load_row rfl 107 (.tmp 9) rfl (bQ + 1) rfl 107 _ _ _ K9.out Try.underlying107 rfl (inf9s _) ?_) | (refine wpList_load_row rfl 107 (.tmp 10) rfl (bQ + 1 + 1) rfl 107 _ _ _ K10.out Try.underlying107 rfl (inf9s _) ?_))
            refine (joinedSpans_c A B n hn8 w7).mono ?_
            rintro e8 w8 ⟨rfl, hb8⟩
            rw [← HG.out]
            have K12 := Lib.hid (blkBel hb8 K12.out)
            have HI8 := Lib.hid (HI7.out.stay hb8)
            have HO8 := Lib.hid (HO7.out.stay hb8)
            clear hb8 HI7 HO7
            have HT12 := Lib.hid (there9 K12.out tG)
            obtain ⟨w9, hw9⟩ : ∃ z, z = w8.setCells w6.heap.size 0 (tab9 tG).toList := ⟨_, rfl⟩
            have K12 : Hid (w9.heap[w6.heap.size]? = some (.cells (tab9 tG) 107 (0, 0))) := Lib.hid (by rw [hw9]; exact set9 K12.out _)
            have HI9 : Hid (SpI w s w9) := Lib.hid (by rw [hw9]; exact HI8.out.set (by omega) _)
            have HO9 : Hid (OwnT w9 (w.heap.size + 2) (.slice aS L cS) ts) := Lib.hid (by rw [hw9]; exact HO8.out.set (fun q hq => by have := HLO.out q hq; omega) _)
            have HW9 := Lib.hid hw9; clear hw9 HI8 HO8
            go_wp2_with (refine wpList_store_mid rfl 107 (.tmp 12) (.tmp 55) rfl w6.heap.size 0 (tab9 tG) rfl rfl HT12.out (inf9s _) (tab9_one _) ?_; rw [← HW9.out])
            go_meet
            exact ⟨rfl, tG, HI9, HO9, K12, Hk⟩
          · skip
            obtain ⟨tG, hG⟩ : ∃ tG : Tb, tG = up n fun i j => A i j || B i j := ⟨_, rfl⟩
            rw [← hG] at hk
            have HG := Lib.hid hG; clear hG
            have Hk := Lib.hid hk; clear hk
            go_wp2_with fail
            refine (filled_c (fun i j => A i j || B i j) n hn8 131 #[.pointer (some ⟨bQ + 1, 0, none⟩), .pointer (some ⟨bQ + 1 + 1, 0, none⟩)] bodyS3 w7 (fun i j hij hj w' hb => (orS_c (blkBel hb K9.out) (blkBel hb K10.out) hij (by omega)).mono fun e w'' h => ⟨h.1, 0, h.2⟩)).mono ?_
            rintro e8 w8 ⟨rfl, hb8⟩
            rw [← HG.out]
            have K12 := Lib.hid (blkBel hb8 K12.out)
            have HI8 := Lib.hid (HI7.out.stay hb8)
            have HO8 := Lib.hid (HO7.out.stay hb8)
            clear hb8 HI7 HO7
            have HT12 := Lib.hid (there9 K12.out tG)
            obtain ⟨w9, hw9⟩ : ∃ z, z = w8.setCells w6.heap.size 0 (tab9 tG).toList := ⟨_, rfl⟩
            have K12 : Hid (w9.heap[w6.heap.size]? = some (.cells (tab9 tG) 107 (0, 0))) := Lib.hid (by rw [hw9]; exact set9 K12.out _)
            have HI9 : Hid (SpI w s w9) := Lib.hid (by rw [hw9]; exact HI8.out.set (by omega) _)
            have HO9 : Hid (OwnT w9 (w.heap.size + 2) (.slice aS L cS) ts) := Lib.hid (by rw [hw9]; exact HO8.out.set (fun q hq => by have := HLO.out q hq; omega) _)
            have HW9 := Lib.hid hw9; clear hw9 HI8 HO8
            go_wp2_with (refine wpList_store_mid rfl 107 (.tmp 12) (.tmp 60) rfl w6.heap.size 0 (tab9 tG) rfl rfl HT12.out (inf9s _) (tab9_one _) ?_; rw [← HW9.out])
            go_meet
            exact ⟨rfl, tG, HI9, HO9, K12, Hk⟩
          · skip
            obtain ⟨tG, hG⟩ : ∃ tG : Tb, tG = up n fun i j => A i j && B i j := ⟨_, rfl⟩
            rw [← hG] at hk
            have HG := Lib.hid hG; clear hG
            have Hk := Lib.hid hk; clear hk
            go_wp2_with fail
            refine (filled_c (fun i j => A i j && B i j) n hn8 132 #[.pointer (some ⟨bQ + 1, 0, none⟩), .pointer (some ⟨bQ + 1 + 1, 0, none⟩)] bodyS4 w7 (fun i j hij hj w' hb => (andS_c (blkBel hb K9.out) (blkBel hb K10.out) hij (by omega)).mono fun e w'' h => ⟨h.1, 0, h.2⟩)).mono ?_
            rintro e8 w8 ⟨rfl, hb8⟩
            rw [← HG.out]
            have K12 := Lib.hid (blkBel hb8 K12.out)
            have HI8 := Lib.hid (HI7.out.stay hb8)
            have HO8 := Lib.hid (HO7.out.stay hb8)
            clear hb8 HI7 HO7
            have HT12 := Lib.hid (there9 K12.out tG)
            obtain ⟨w9, hw9⟩ : ∃ z, z = w8.setCells w6.heap.size 0 (tab9 tG).toList := ⟨_, rfl⟩
            have K12 : Hid (w9.heap[w6.heap.size]? = some (.cells (tab9 tG) 107 (0, 0))) := Lib.hid (by rw [hw9]; exact set9 K12.out _)
            have HI9 : Hid (SpI w s w9) := Lib.hid (by rw [hw9]; exact HI8.out.set (by omega) _)
            have HO9 : Hid (OwnT w9 (w.heap.size + 2) (.slice aS L cS) ts) := Lib.hid (by rw [hw9]; exact HO8.out.set (fun q hq => by have := HLO.out q hq; omega) _)
            have HW9 := Lib.hid hw9; clear hw9 HI8 HO8
            go_wp2_with (refine wpList_store_mid rfl 107 (.tmp 12) (.tmp 65) rfl w6.heap.size 0 (tab9 tG) rfl rfl HT12.out (inf9s _) (tab9_one _) ?_; rw [← HW9.out])
            go_meet
            exact ⟨rfl, tG, HI9, HO9, K12, Hk⟩
          · skip
            obtain ⟨tG, hG⟩ : ∃ tG : Tb, tG = up n fun i j => !A i j := ⟨_, rfl⟩
            rw [← hG] at hk
            have HG := Lib.hid hG; clear hG
            have Hk := Lib.hid hk; clear hk
            go_wp2_with fail
            refine (filled_c (fun i j => !A i j) n hn8 133 #[.pointer (some ⟨bQ + 1, 0, none⟩)] bodyS5 w7 (fun i j hij hj w' hb => (notS_c (blkBel hb K9.out) hij (by omega)).mono fun e w'' h => ⟨h.1, 0, h.2⟩)).mono ?_
            rintro e8 w8 ⟨rfl, hb8⟩
            rw [← HG.out]
            have K12 := Lib.hid (blkBel hb8 K12.out)
            have HI8 := Lib.hid (HI7.out.stay hb8)
            have HO8 := Lib.hid (HO7.out.stay hb8)
            clear hb8 HI7 HO7
            have HT12 := Lib.hid (there9 K12.out tG)
            obtain ⟨w9, hw9⟩ : ∃ z, z = w8.setCells w6.heap.size 0 (tab9 tG).toList := ⟨_, rfl⟩
            have K12 : Hid (w9.heap[w6.heap.size]? = some (.cells (tab9 tG) 107 (0, 0))) := Lib.hid (by rw [hw9]; exact set9 K12.out _)
            have HI9 : Hid (SpI w s w9) := Lib.hid (by rw [hw9]; exact HI8.out.set (by omega) _)
            have HO9 : Hid (OwnT w9 (w.heap.size + 2) (.slice aS L cS) ts) := Lib.hid (by rw [hw9]; exact HO8.out.set (fun q hq => by have := HLO.out q hq; omega) _)
            have HW9 := Lib.hid hw9; clear hw9 HI8 HO8
            go_wp2_with (refine wpList_store_mid rfl 107 (.tmp 12) (.tmp 70) rfl w6.heap.size 0 (tab9 tG) rfl rfl HT12.out (inf9s _) (tab9_one _) ?_; rw [← HW9.out])
            go_meet
            exact ⟨rfl, tG, HI9, HO9, K12, Hk⟩
          · skip
            obtain ⟨tG, hG⟩ : ∃ tG : Tb, tG = stT n A n := ⟨_, rfl⟩
            rw [← hG] at hk
            have HG := Lib.hid hG; clear hG
            have Hk := Lib.hid hk; clear hk
            go_wp2_with (first | (refine wpList_load_row rfl 107 (.tmp 9) rfl (bQ + 1) rfl 107 _ _ _ K9.out Try.underlying107 rfl (inf9s _) ?_) | (refine wpList_load_row rfl 107 (.tmp 10) rfl (bQ + 1 + 1) rfl 107 _ _ _ K10.out Try.underlying107 rfl (inf9s _) ?_))
            refine (starSpans_c A n hn8 w7).mono ?_
            rintro e8 w8 ⟨rfl, hb8⟩
            rw [← HG.out]
            have K12 := Lib.hid (blkBel hb8 K12.out)
            have HI8 := Lib.hid (HI7.out.stay hb8)
            have HO8 := Lib.hid (HO7.out.stay hb8)
            clear hb8 HI7 HO7
            have HT12 := Lib.hid (there9 K12.out tG)
            obtain ⟨w9, hw9⟩ : ∃ z, z = w8.setCells w6.heap.size 0 (tab9 tG).toList := ⟨_, rfl⟩
            have K12 : Hid (w9.heap[w6.heap.size]? = some (.cells (tab9 tG) 107 (0, 0))) := Lib.hid (by rw [hw9]; exact set9 K12.out _)
            have HI9 : Hid (SpI w s w9) := Lib.hid (by rw [hw9]; exact HI8.out.set (by omega) _)
            have HO9 : Hid (OwnT w9 (w.heap.size + 2) (.slice aS L cS) ts) := Lib.hid (by rw [hw9]; exact HO8.out.set (fun q hq => by have := HLO.out q hq; omega) _)
            have HW9 := Lib.hid hw9; clear hw9 HI8 HO8
            go_wp2_with (refine wpList_store_mid rfl 107 (.tmp 12) (.tmp 75) rfl w6.heap.size 0 (tab9 tG) rfl rfl HT12.out (inf9s _) (tab9_one _) ?_; rw [← HW9.out])
            go_meet
            exact ⟨rfl, tG, HI9, HO9, K12, Hk⟩
        case rest =>
          obtain ⟨hs12, tG, HI9, HO9, K12, Hk⟩ := hcut
          subst hs12
          generalize wc = w9 at *
          clear HKK HPT HW7 HI7 HO7 d0 d1
          have hMI : (M : Int) ≤ (L : Int) := by have := HLMN.out; omega
          have hM0 : (0 : Int) ≤ (M : Int) := by omega
          have hrD : w9.drew.rangeAt w6.heap.size 0 (tab9 tG).toList := range9 (w := w9.drew) K12.out
          have HI9 := Lib.hid (HI9.out.stay (Below.refl _ _).drew)
          have HO9 : Hid (OwnT w9.drew (w.heap.size + 2) (.slice aS L cS) ts) := Lib.hid (HO9.out.stay (Below.refl _ _).drew)
          have HOM : Hid (OwnT w9.drew (w.heap.size + 2) (.slice aS M cS) (ts.take M)) := Lib.hid (HO9.out.take HL.out (by have := HLMN.out; have := HL.out; omega))
          have Hml : Hid ((ts.take M).length = M) := Lib.hid (by rw [List.length_take]; have := HLMN.out; have := HL.out; omega)
          have hbz : w.heap.size + 2 ≤ w9.heap.size := HI9.out.lt
          have hnilblk : (aS = none ∧ L = 0 ∧ M = 0 ∧ cS = 0) ∨ (∃ g, aS = some ⟨g, 0, none⟩ ∧ (M : Int) ≤ (cS : Int)) := by
            have h7 := HL.out
            have h8 := HLMN.out
            obtain ⟨_, ⟨h1, h2⟩ | ⟨g, cg, cur, h1, _, _, h2, _⟩⟩ := HO9.out
            · injection h1 with e1 e2 e3; exact .inl ⟨e1, e2, by omega, e3⟩
            · injection h1 with e1 e2 e3; exact .inr ⟨g, e1, by omega⟩
          rcases hnilblk with ⟨rfl, rfl, rfl, rfl⟩ | ⟨g, rfl, hMc⟩
          · skip
            go_wp2_with fail
            refine wp_region_inv2 [(2, 0), (2, 1), (4, 3), (5, 2), (5, 4), (6, 5)] (fun listed a w' => ∃ (b0 b1 b2 b3 b4 b5 b6 : Bool) (x80 x81 : Value), listed = #[b0, b1, b2, b3, b4, b5, b6] ∧ a = { tmps := #[Value.slice (some { block := b, off := off }) e.length cap, Value.string s, undef, Value.pointer (some { block := w.heap.size, off := 0 }), Value.pointer (some { block := w.heap.size + 1, off := 0 }), Value.int IntKind.i64 ↑n, cond b6 (x81) (Value.slice none 0 0), undef, Value.pointer (some { block := bQ, off := 0 }), Value.pointer (some { block := bQ + 1, off := 0 }), Value.pointer (some { block := bQ + 1 + 1, off := 0 }), Value.int IntKind.i64 ↑0, Value.pointer (some { block := w6.heap.size, off := 0 }), Value.string s, Value.int IntKind.i64 ↑n, Value.slice (some { block := b, off := off }) e.length cap, Value.int IntKind.i64 ↑e.length, Value.int IntKind.i64 ↑k, Value.bool true, Value.pointer (some { block := b, off := off + k * 2 }), Value.agg #[Value.int IntKind.i64 x, Value.int IntKind.i64 y], Value.slice none 0 0, Value.int IntKind.i64 ↑0, Value.agg #[Value.int IntKind.i64 x, Value.int IntKind.i64 y], Value.int IntKind.i64 ↑N, Value.int IntKind.i64 ↑0, Value.agg #[Value.int IntKind.i64 x, Value.int IntKind.i64 y], Value.int IntKind.i64 ↑N, u28, u29, u30, u31, u32, u33, u34, u35, u36, u37, u38, Value.pointer (some { block := bQ, off := 0 }), Value.int IntKind.i64 x, u41, u42, u43, u44, u45, u46, u47, u48, u49, u50, u51, u52, u53, u54, u55, u56, u57, u58, u59, u60, u61, u62, u63, u64, u65, u66, u67, u68, u69, u70, u71, u72, u73, u74, u75, cond b0 (.slice none 0 0) (u76), cond b1 (.int .i64 0) (u77), cond b2 (.slice none 0 0) (u78), cond b3 (.agg (tab9 tG)) (u79), x80, x81, u82, undef, undef, undef], defers := [] } ∧ Hid ((b4 = false → w' = w9.drew) ∧ (b4 = true → b5 = false → (w' = (w9.drew.alloc (.cells (tab9 tG) 107)) ∧ x80 = .slice (some ⟨w9.heap.size, 0, none⟩) 1 1)) ∧ (b5 = true → (∃ (g7 cap7 : Nat), x81 = .slice (some ⟨g7, 0, none⟩) (0 + 1) cap7 ∧ OwnT w' (w.heap.size + 2) (.slice (some ⟨g7, 0, none⟩) (0 + 1) cap7) (ts.take 0 ++ [tG]) ∧ w9.drew.grownBy w' (Value.slice none 0 0).ownBlock)))) (fun G => ∀ (x80 x81 : Value) (w' : World), ((∃ (g7 cap7 : Nat), x81 = .slice (some ⟨g7, 0, none⟩) (0 + 1) cap7 ∧ OwnT w' (w.heap.size + 2) (.slice (some ⟨g7, 0, none⟩) (0 + 1) cap7) (ts.take 0 ++ [tG]) ∧ w9.drew.grownBy w' (Value.slice none 0 0).ownBlock)) → G { tmps := #[Value.slice (some { block := b, off := off }) e.length cap, Value.string s, undef, Value.pointer (some { block := w.heap.size, off := 0 }), Value.pointer (some { block := w.heap.size + 1, off := 0 }), Value.int IntKind.i64 ↑n, x81, undef, Value.pointer (some { block := bQ, off := 0 }), Value.pointer (some { block := bQ + 1, off := 0 }), Value.pointer (some { block := bQ + 1 + 1, off := 0 }), Value.int IntKind.i64 ↑0, Value.pointer (some { block := w6.heap.size, off := 0 }), Value.string s, Value.int IntKind.i64 ↑n, Value.slice (some { block := b, off := off }) e.length cap, Value.int IntKind.i64 ↑e.length, Value.int IntKind.i64 ↑k, Value.bool true, Value.pointer (some { block := b, off := off + k * 2 }), Value.agg #[Value.int IntKind.i64 x, Value.int IntKind.i64 y], Value.slice none 0 0, Value.int IntKind.i64 ↑0, Value.agg #[Value.int IntKind.i64 x, Value.int IntKind.i64 y], Value.int IntKind.i64 ↑N, Value.int IntKind.i64 ↑0, Value.agg #[Value.int IntKind.i64 x, Value.int IntKind.i64 y], Value.int IntKind.i64 ↑N, u28, u29, u30, u31, u32, u33, u34, u35, u36, u37, u38, Value.pointer (some { block := bQ, off := 0 }), Value.int IntKind.i64 x, u41, u42, u43, u44, u45, u46, u47, u48, u49, u50, u51, u52, u53, u54, u55, u56, u57, u58, u59, u60, u61, u62, u63, u64, u65, u66, u67, u68, u69, u70, u71, u72, u73, u74, u75, .slice none 0 0, .int .i64 0, .slice none 0 0, .agg (tab9 tG), x80, x81, u82, undef, undef, undef], defers := [] } w') (by kernel_rfl) (by kernel_rfl) (by kernel_rfl) (by kernel_rfl) ?_ ?_ ?_ ?_
            · exact ⟨false, false, false, false, false, false, false, u80, u81, rfl, rfl, Lib.hid ⟨fun _ => rfl, nofun, nofun⟩⟩
            · refine StepsU.cons ?_ ?_
              · intro Q E0 listed a w' hI hM hk haft K hK
                obtain ⟨b0, b1, b2, b3, b4, b5, b6, x80, x81, hl, ha, HF⟩ := hI
                subst hl; subst ha
                obtain ⟨G, G4, G5⟩ := HF.out
                clear HF
                have hk' : b0 = false := hk
                subst hk'
                clear hk
                obtain rfl : b2 = false := by cases b2 with | false => rfl | true => exact absurd (hM 2 0 rfl rfl) Bool.false_ne_true
                obtain rfl : b5 = false := by cases b5 with | false => rfl | true => exact absurd (hM 5 2 rfl rfl) Bool.false_ne_true
                obtain rfl : b6 = false := by cases b6 with | false => rfl | true => exact absurd (hM 6 5 rfl rfl) Bool.false_ne_true
                clear haft
                go_simp
                exact hK _ _ ⟨true, b1, false, b3, b4, false, false, _, _, rfl, rfl, Lib.hid ⟨G, G4, nofun⟩⟩
              refine StepsU.cons ?_ ?_
              · intro Q E0 listed a w' hI hM hk haft K hK
                obtain ⟨b0, b1, b2, b3, b4, b5, b6, x80, x81, hl, ha, HF⟩ := hI
                subst hl; subst ha
                obtain ⟨G, G4, G5⟩ := HF.out
                clear HF
                have hk' : b1 = false := hk
                subst hk'
                clear hk
                obtain rfl : b2 = false := by cases b2 with | false => rfl | true => exact absurd (hM 2 1 rfl rfl) Bool.false_ne_true
                obtain rfl : b5 = false := by cases b5 with | false => rfl | true => exact absurd (hM 5 2 rfl rfl) Bool.false_ne_true
                obtain rfl : b6 = false := by cases b6 with | false => rfl | true => exact absurd (hM 6 5 rfl rfl) Bool.false_ne_true
                clear haft
                go_simp
                exact hK _ _ ⟨b0, true, false, b3, b4, false, false, _, _, rfl, rfl, Lib.hid ⟨G, G4, nofun⟩⟩
              refine StepsU.cons ?_ ?_
              · intro Q E0 listed a w' hI hM hk haft K hK
                obtain ⟨b0, b1, b2, b3, b4, b5, b6, x80, x81, hl, ha, HF⟩ := hI
                subst hl; subst ha
                obtain ⟨G, G4, G5⟩ := HF.out
                clear HF
                have hk' : b2 = false := hk
                subst hk'
                clear hk
                obtain rfl : b5 = false := by cases b5 with | false => rfl | true => exact absurd (hM 5 2 rfl rfl) Bool.false_ne_true
                obtain rfl : b6 = false := by cases b6 with | false => rfl | true => exact absurd (hM 6 5 rfl rfl) Bool.false_ne_true
                obtain rfl : b0 = true := haft ⟨0, .data⟩ (by simp) rfl
                obtain rfl : b1 = true := haft ⟨1, .data⟩ (by simp) rfl
                clear haft
                go_simp
                exact hK _ _ ⟨true, true, true, b3, b4, false, false, _, _, rfl, rfl, Lib.hid ⟨G, G4, nofun⟩⟩
              refine StepsU.cons ?_ ?_
              · intro Q E0 listed a w' hI hM hk haft K hK
                obtain ⟨b0, b1, b2, b3, b4, b5, b6, x80, x81, hl, ha, HF⟩ := hI
                subst hl; subst ha
                obtain ⟨G, G4, G5⟩ := HF.out
                clear HF
                have hk' : b3 = false := hk
                subst hk'
                clear hk
                obtain rfl : b4 = false := by cases b4 with | false => rfl | true => exact absurd (hM 4 3 rfl rfl) Bool.false_ne_true
                obtain rfl : b5 = false := by cases b5 with | false => rfl | true => exact absurd (hM 5 4 rfl rfl) Bool.false_ne_true
                obtain rfl : b6 = false := by cases b6 with | false => rfl | true => exact absurd (hM 6 5 rfl rfl) Bool.false_ne_true
                clear haft
                obtain rfl := G rfl
                refine step_load9 rfl (.tmp 12) rfl w6.heap.size (0) rfl tG hrD ?_
                exact hK _ _ ⟨b0, b1, b2, true, false, false, false, _, _, rfl, rfl, Lib.hid ⟨fun _ => rfl, nofun, nofun⟩⟩
              refine StepsU.cons ?_ ?_
              · intro Q E0 listed a w' hI hM hk haft K hK
                obtain ⟨b0, b1, b2, b3, b4, b5, b6, x80, x81, hl, ha, HF⟩ := hI
                subst hl; subst ha
                obtain ⟨G, G4, G5⟩ := HF.out
                clear HF
                have hk' : b4 = false := hk
                subst hk'
                clear hk
                obtain rfl : b5 = false := by cases b5 with | false => rfl | true => exact absurd (hM 5 4 rfl rfl) Bool.false_ne_true
                obtain rfl : b6 = false := by cases b6 with | false => rfl | true => exact absurd (hM 6 5 rfl rfl) Bool.false_ne_true
                obtain rfl : b3 = true := haft ⟨3, .data⟩ (by simp) rfl
                clear haft
                obtain rfl := G rfl
                refine step_build9 rfl (.tmp 79) rfl tG rfl ?_
                exact hK _ _ ⟨b0, b1, b2, true, true, false, false, _, _, rfl, rfl, Lib.hid ⟨nofun, fun _ _ => ⟨rfl, rfl⟩, nofun⟩⟩
              refine StepsU.cons ?_ ?_
              · intro Q E0 listed a w' hI hM hk haft K hK
                obtain ⟨b0, b1, b2, b3, b4, b5, b6, x80, x81, hl, ha, HF⟩ := hI
                subst hl; subst ha
                obtain ⟨G, G4, G5⟩ := HF.out
                clear HF
                have hk' : b5 = false := hk
                subst hk'
                clear hk
                obtain rfl : b6 = false := by cases b6 with | false => rfl | true => exact absurd (hM 6 5 rfl rfl) Bool.false_ne_true
                obtain rfl : b2 = true := haft ⟨2, .data⟩ (by simp) rfl
                obtain rfl : b4 = true := haft ⟨4, .data⟩ (by simp) rfl
                obtain rfl : b0 = true := hM 2 0 rfl rfl
                obtain rfl : b1 = true := hM 2 1 rfl rfl
                obtain rfl : b3 = true := hM 4 3 rfl rfl
                clear haft
                have hG := G4 rfl rfl
                obtain ⟨rfl, rfl⟩ := hG
                refine stepAppAt elSpans (by decide) rfl (.tmp 78) (.tmp 80) rfl (w.heap.size + 2) (.slice none 0 0) (0) (tbCells (ts.take 0)) (tab9 tG).toList _ w9.heap.size rfl rfl (by have h := HOM.out; unfold OwnT at h; rw [Hml.out] at h; exact h.alloc _) (by have h := blkNew w9.drew (.cells (tab9 tG) 107) rfl; simpa using h) (by rw [Array.length_toList, tab9_size]) (fun u hu => (Array.all_eq_true_iff_forall_mem.1 (tab9_one tG)) u (by simpa using hu)) (by omega) (by have h9 : w9.drew.heap.size = w9.heap.size := rfl; simp; omega) ?_
                intro g7 cap7 w7 ho7 hg7 hat7
                have ho8 : OwnT w7 (w.heap.size + 2) (.slice (some ⟨g7, 0, none⟩) (0 + 1) cap7) (ts.take 0 ++ [tG]) := by unfold OwnT; rw [List.length_append, Hml.out, show tbCells (ts.take 0 ++ [tG]) = tbCells (ts.take 0) ++ (tab9 tG).toList by unfold tbCells; rw [List.flatMap_append]; simp]; exact ho7.out
                have hg8 := grownTrans (grownBel ((Below.refl _ _).alloc (Nat.le_refl _) _)) hg7
                exact hK _ _ ⟨true, true, true, true, true, true, false, _, _, rfl, rfl, Lib.hid ⟨nofun, fun _ => nofun, fun _ => ⟨g7, cap7, rfl, ho8, hg8⟩⟩⟩
              refine StepsU.cons ?_ ?_
              · intro Q E0 listed a w' hI hM hk haft K hK
                obtain ⟨b0, b1, b2, b3, b4, b5, b6, x80, x81, hl, ha, HF⟩ := hI
                subst hl; subst ha
                obtain ⟨G, G4, G5⟩ := HF.out
                clear HF
                have hk' : b6 = false := hk
                subst hk'
                clear hk
                obtain rfl : b5 = true := haft ⟨5, .data⟩ (by simp) rfl
                obtain rfl : b2 = true := hM 5 2 rfl rfl
                obtain rfl : b4 = true := hM 5 4 rfl rfl
                obtain rfl : b0 = true := hM 2 0 rfl rfl
                obtain rfl : b1 = true := hM 2 1 rfl rfl
                obtain rfl : b3 = true := hM 4 3 rfl rfl
                clear haft
                go_simp
                exact hK _ _ ⟨true, true, true, true, true, true, true, _, _, rfl, rfl, Lib.hid ⟨nofun, G4, G5⟩⟩
              exact StepsU.nil
            · intro G0 hG0 listed a w' hI hall
              obtain ⟨b0, b1, b2, b3, b4, b5, b6, x80, x81, hl, ha, HF⟩ := hI
              subst hl; subst ha
              obtain rfl : b0 = true := hall 0 (by decide)
              obtain rfl : b1 = true := hall 1 (by decide)
              obtain rfl : b2 = true := hall 2 (by decide)
              obtain rfl : b3 = true := hall 3 (by decide)
              obtain rfl : b4 = true := hall 4 (by decide)
              obtain rfl : b5 = true := hall 5 (by decide)
              obtain rfl : b6 = true := hall 6 (by decide)
              exact hG0 _ _ _ (HF.out.2.2 rfl)
            · intro x80 x81 w' hFin
              obtain ⟨g7, cap7, rfl, ho7, hg7⟩ := hFin
              go_wp2_with fail
              go_roundw
              case rel => exact ⟨k + 1, s', by omega, by go_num, Lib.hid (HI9.out.grown HOM.out hg7), Hp', by rw [Hk.out]; exact ho7⟩
              case measure => simp [intOf]; omega
          · skip
            go_wp2_with fail
            refine wp_region_inv2 [(2, 0), (2, 1), (4, 3), (5, 2), (5, 4), (6, 5)] (fun listed a w' => ∃ (b0 b1 b2 b3 b4 b5 b6 : Bool) (x80 x81 : Value), listed = #[b0, b1, b2, b3, b4, b5, b6] ∧ a = { tmps := #[Value.slice (some { block := b, off := off }) e.length cap, Value.string s, undef, Value.pointer (some { block := w.heap.size, off := 0 }), Value.pointer (some { block := w.heap.size + 1, off := 0 }), Value.int IntKind.i64 ↑n, cond b6 (x81) (Value.slice (some { block := g, off := 0 }) L cS), undef, Value.pointer (some { block := bQ, off := 0 }), Value.pointer (some { block := bQ + 1, off := 0 }), Value.pointer (some { block := bQ + 1 + 1, off := 0 }), Value.int IntKind.i64 ↑M, Value.pointer (some { block := w6.heap.size, off := 0 }), Value.string s, Value.int IntKind.i64 ↑n, Value.slice (some { block := b, off := off }) e.length cap, Value.int IntKind.i64 ↑e.length, Value.int IntKind.i64 ↑k, Value.bool true, Value.pointer (some { block := b, off := off + k * 2 }), Value.agg #[Value.int IntKind.i64 x, Value.int IntKind.i64 y], Value.slice (some { block := g, off := 0 }) L cS, Value.int IntKind.i64 ↑L, Value.agg #[Value.int IntKind.i64 x, Value.int IntKind.i64 y], Value.int IntKind.i64 ↑N, Value.int IntKind.i64 ↑M, Value.agg #[Value.int IntKind.i64 x, Value.int IntKind.i64 y], Value.int IntKind.i64 ↑N, u28, u29, u30, u31, u32, u33, u34, u35, u36, u37, u38, Value.pointer (some { block := bQ, off := 0 }), Value.int IntKind.i64 x, u41, u42, u43, u44, u45, u46, u47, u48, u49, u50, u51, u52, u53, u54, u55, u56, u57, u58, u59, u60, u61, u62, u63, u64, u65, u66, u67, u68, u69, u70, u71, u72, u73, u74, u75, cond b0 (.slice (some ⟨g, 0, none⟩) L cS) (u76), cond b1 (.int .i64 M) (u77), cond b2 (.slice (some ⟨g, 0, none⟩) M cS) (u78), cond b3 (.agg (tab9 tG)) (u79), x80, x81, u82, undef, undef, undef], defers := [] } ∧ Hid ((b4 = false → w' = w9.drew) ∧ (b4 = true → b5 = false → (w' = (w9.drew.alloc (.cells (tab9 tG) 107)) ∧ x80 = .slice (some ⟨w9.heap.size, 0, none⟩) 1 1)) ∧ (b5 = true → (∃ (g7 cap7 : Nat), x81 = .slice (some ⟨g7, 0, none⟩) (M + 1) cap7 ∧ OwnT w' (w.heap.size + 2) (.slice (some ⟨g7, 0, none⟩) (M + 1) cap7) (ts.take M ++ [tG]) ∧ w9.drew.grownBy w' (Value.slice (some ⟨g, 0, none⟩) M cS).ownBlock)))) (fun G => ∀ (x80 x81 : Value) (w' : World), ((∃ (g7 cap7 : Nat), x81 = .slice (some ⟨g7, 0, none⟩) (M + 1) cap7 ∧ OwnT w' (w.heap.size + 2) (.slice (some ⟨g7, 0, none⟩) (M + 1) cap7) (ts.take M ++ [tG]) ∧ w9.drew.grownBy w' (Value.slice (some ⟨g, 0, none⟩) M cS).ownBlock)) → G { tmps := #[Value.slice (some { block := b, off := off }) e.length cap, Value.string s, undef, Value.pointer (some { block := w.heap.size, off := 0 }), Value.pointer (some { block := w.heap.size + 1, off := 0 }), Value.int IntKind.i64 ↑n, x81, undef, Value.pointer (some { block := bQ, off := 0 }), Value.pointer (some { block := bQ + 1, off := 0 }), Value.pointer (some { block := bQ + 1 + 1, off := 0 }), Value.int IntKind.i64 ↑M, Value.pointer (some { block := w6.heap.size, off := 0 }), Value.string s, Value.int IntKind.i64 ↑n, Value.slice (some { block := b, off := off }) e.length cap, Value.int IntKind.i64 ↑e.length, Value.int IntKind.i64 ↑k, Value.bool true, Value.pointer (some { block := b, off := off + k * 2 }), Value.agg #[Value.int IntKind.i64 x, Value.int IntKind.i64 y], Value.slice (some { block := g, off := 0 }) L cS, Value.int IntKind.i64 ↑L, Value.agg #[Value.int IntKind.i64 x, Value.int IntKind.i64 y], Value.int IntKind.i64 ↑N, Value.int IntKind.i64 ↑M, Value.agg #[Value.int IntKind.i64 x, Value.int IntKind.i64 y], Value.int IntKind.i64 ↑N, u28, u29, u30, u31, u32, u33, u34, u35, u36, u37, u38, Value.pointer (some { block := bQ, off := 0 }), Value.int IntKind.i64 x, u41, u42, u43, u44, u45, u46, u47, u48, u49, u50, u51, u52, u53, u54, u55, u56, u57, u58, u59, u60, u61, u62, u63, u64, u65, u66, u67, u68, u69, u70, u71, u72, u73, u74, u75, .slice (some ⟨g, 0, none⟩) L cS, .int .i64 M, .slice (some ⟨g, 0, none⟩) M cS, .agg (tab9 tG), x80, x81, u82, undef, undef, undef], defers := [] } w') (by kernel_rfl) (by kernel_rfl) (by kernel_rfl) (by kernel_rfl) ?_ ?_ ?_ ?_
            · exact ⟨false, false, false, false, false, false, false, u80, u81, rfl, rfl, Lib.hid ⟨fun _ => rfl, nofun, nofun⟩⟩
            · refine StepsU.cons ?_ ?_
              · intro Q E0 listed a w' hI hM hk haft K hK
                obtain ⟨b0, b1, b2, b3, b4, b5, b6, x80, x81, hl, ha, HF⟩ := hI
                subst hl; subst ha
                obtain ⟨G, G4, G5⟩ := HF.out
                clear HF
                have hk' : b0 = false := hk
                subst hk'
                clear hk
                obtain rfl : b2 = false := by cases b2 with | false => rfl | true => exact absurd (hM 2 0 rfl rfl) Bool.false_ne_true
                obtain rfl : b5 = false := by cases b5 with | false => rfl | true => exact absurd (hM 5 2 rfl rfl) Bool.false_ne_true
                obtain rfl : b6 = false := by cases b6 with | false => rfl | true => exact absurd (hM 6 5 rfl rfl) Bool.false_ne_true
                clear haft
                go_simp
                exact hK _ _ ⟨true, b1, false, b3, b4, false, false, _, _, rfl, rfl, Lib.hid ⟨G, G4, nofun⟩⟩
              refine StepsU.cons ?_ ?_
              · intro Q E0 listed a w' hI hM hk haft K hK
                obtain ⟨b0, b1, b2, b3, b4, b5, b6, x80, x81, hl, ha, HF⟩ := hI
                subst hl; subst ha
                obtain ⟨G, G4, G5⟩ := HF.out
                clear HF
                have hk' : b1 = false := hk
                subst hk'
                clear hk
                obtain rfl : b2 = false := by cases b2 with | false => rfl | true => exact absurd (hM 2 1 rfl rfl) Bool.false_ne_true
                obtain rfl : b5 = false := by cases b5 with | false => rfl | true => exact absurd (hM 5 2 rfl rfl) Bool.false_ne_true
                obtain rfl : b6 = false := by cases b6 with | false => rfl | true => exact absurd (hM 6 5 rfl rfl) Bool.false_ne_true
                clear haft
                go_simp
                exact hK _ _ ⟨b0, true, false, b3, b4, false, false, _, _, rfl, rfl, Lib.hid ⟨G, G4, nofun⟩⟩
              refine StepsU.cons ?_ ?_
              · intro Q E0 listed a w' hI hM hk haft K hK
                obtain ⟨b0, b1, b2, b3, b4, b5, b6, x80, x81, hl, ha, HF⟩ := hI
                subst hl; subst ha
                obtain ⟨G, G4, G5⟩ := HF.out
                clear HF
                have hk' : b2 = false := hk
                subst hk'
                clear hk
                obtain rfl : b5 = false := by cases b5 with | false => rfl | true => exact absurd (hM 5 2 rfl rfl) Bool.false_ne_true
                obtain rfl : b6 = false := by cases b6 with | false => rfl | true => exact absurd (hM 6 5 rfl rfl) Bool.false_ne_true
                obtain rfl : b0 = true := haft ⟨0, .data⟩ (by simp) rfl
                obtain rfl : b1 = true := haft ⟨1, .data⟩ (by simp) rfl
                clear haft
                go_simp
                exact hK _ _ ⟨true, true, true, b3, b4, false, false, _, _, rfl, rfl, Lib.hid ⟨G, G4, nofun⟩⟩
              refine StepsU.cons ?_ ?_
              · intro Q E0 listed a w' hI hM hk haft K hK
                obtain ⟨b0, b1, b2, b3, b4, b5, b6, x80, x81, hl, ha, HF⟩ := hI
                subst hl; subst ha
                obtain ⟨G, G4, G5⟩ := HF.out
                clear HF
                have hk' : b3 = false := hk
                subst hk'
                clear hk
                obtain rfl : b4 = false := by cases b4 with | false => rfl | true => exact absurd (hM 4 3 rfl rfl) Bool.false_ne_true
                obtain rfl : b5 = false := by cases b5 with | false => rfl | true => exact absurd (hM 5 4 rfl rfl) Bool.false_ne_true
                obtain rfl : b6 = false := by cases b6 with | false => rfl | true => exact absurd (hM 6 5 rfl rfl) Bool.false_ne_true
                clear haft
                obtain rfl := G rfl
                refine step_load9 rfl (.tmp 12) rfl w6.heap.size (0) rfl tG hrD ?_
                exact hK _ _ ⟨b0, b1, b2, true, false, false, false, _, _, rfl, rfl, Lib.hid ⟨fun _ => rfl, nofun, nofun⟩⟩
              refine StepsU.cons ?_ ?_
              · intro Q E0 listed a w' hI hM hk haft K hK
                obtain ⟨b0, b1, b2, b3, b4, b5, b6, x80, x81, hl, ha, HF⟩ := hI
                subst hl; subst ha
                obtain ⟨G, G4, G5⟩ := HF.out
                clear HF
                have hk' : b4 = false := hk
                subst hk'
                clear hk
                obtain rfl : b5 = false := by cases b5 with | false => rfl | true => exact absurd (hM 5 4 rfl rfl) Bool.false_ne_true
                obtain rfl : b6 = false := by cases b6 with | false => rfl | true => exact absurd (hM 6 5 rfl rfl) Bool.false_ne_true
                obtain rfl : b3 = true := haft ⟨3, .data⟩ (by simp) rfl
                clear haft
                obtain rfl := G rfl
                refine step_build9 rfl (.tmp 79) rfl tG rfl ?_
                exact hK _ _ ⟨b0, b1, b2, true, true, false, false, _, _, rfl, rfl, Lib.hid ⟨nofun, fun _ _ => ⟨rfl, rfl⟩, nofun⟩⟩
              refine StepsU.cons ?_ ?_
              · intro Q E0 listed a w' hI hM hk haft K hK
                obtain ⟨b0, b1, b2, b3, b4, b5, b6, x80, x81, hl, ha, HF⟩ := hI
                subst hl; subst ha
                obtain ⟨G, G4, G5⟩ := HF.out
                clear HF
                have hk' : b5 = false := hk
                subst hk'
                clear hk
                obtain rfl : b6 = false := by cases b6 with | false => rfl | true => exact absurd (hM 6 5 rfl rfl) Bool.false_ne_true
                obtain rfl : b2 = true := haft ⟨2, .data⟩ (by simp) rfl
                obtain rfl : b4 = true := haft ⟨4, .data⟩ (by simp) rfl
                obtain rfl : b0 = true := hM 2 0 rfl rfl
                obtain rfl : b1 = true := hM 2 1 rfl rfl
                obtain rfl : b3 = true := hM 4 3 rfl rfl
                clear haft
                have hG := G4 rfl rfl
                obtain ⟨rfl, rfl⟩ := hG
                refine stepAppAt elSpans (by decide) rfl (.tmp 78) (.tmp 80) rfl (w.heap.size + 2) (.slice (some ⟨g, 0, none⟩) M cS) (M) (tbCells (ts.take M)) (tab9 tG).toList _ w9.heap.size rfl rfl (by have h := HOM.out; unfold OwnT at h; rw [Hml.out] at h; exact h.alloc _) (by have h := blkNew w9.drew (.cells (tab9 tG) 107) rfl; simpa using h) (by rw [Array.length_toList, tab9_size]) (fun u hu => (Array.all_eq_true_iff_forall_mem.1 (tab9_one tG)) u (by simpa using hu)) (by omega) (by have h9 : w9.drew.heap.size = w9.heap.size := rfl; simp; omega) ?_
                intro g7 cap7 w7 ho7 hg7 hat7
                have ho8 : OwnT w7 (w.heap.size + 2) (.slice (some ⟨g7, 0, none⟩) (M + 1) cap7) (ts.take M ++ [tG]) := by unfold OwnT; rw [List.length_append, Hml.out, show tbCells (ts.take M ++ [tG]) = tbCells (ts.take M) ++ (tab9 tG).toList by unfold tbCells; rw [List.flatMap_append]; simp]; exact ho7.out
                have hg8 := grownTrans (grownBel ((Below.refl _ _).alloc (Nat.le_refl _) _)) hg7
                exact hK _ _ ⟨true, true, true, true, true, true, false, _, _, rfl, rfl, Lib.hid ⟨nofun, fun _ => nofun, fun _ => ⟨g7, cap7, rfl, ho8, hg8⟩⟩⟩
              refine StepsU.cons ?_ ?_
              · intro Q E0 listed a w' hI hM hk haft K hK
                obtain ⟨b0, b1, b2, b3, b4, b5, b6, x80, x81, hl, ha, HF⟩ := hI
                subst hl; subst ha
                obtain ⟨G, G4, G5⟩ := HF.out
                clear HF
                have hk' : b6 = false := hk
                subst hk'
                clear hk
                obtain rfl : b5 = true := haft ⟨5, .data⟩ (by simp) rfl
                obtain rfl : b2 = true := hM 5 2 rfl rfl
                obtain rfl : b4 = true := hM 5 4 rfl rfl
                obtain rfl : b0 = true := hM 2 0 rfl rfl
                obtain rfl : b1 = true := hM 2 1 rfl rfl
                obtain rfl : b3 = true := hM 4 3 rfl rfl
                clear haft
                go_simp
                exact hK _ _ ⟨true, true, true, true, true, true, true, _, _, rfl, rfl, Lib.hid ⟨nofun, G4, G5⟩⟩
              exact StepsU.nil
            · intro G0 hG0 listed a w' hI hall
              obtain ⟨b0, b1, b2, b3, b4, b5, b6, x80, x81, hl, ha, HF⟩ := hI
              subst hl; subst ha
              obtain rfl : b0 = true := hall 0 (by decide)
              obtain rfl : b1 = true := hall 1 (by decide)
              obtain rfl : b2 = true := hall 2 (by decide)
              obtain rfl : b3 = true := hall 3 (by decide)
              obtain rfl : b4 = true := hall 4 (by decide)
              obtain rfl : b5 = true := hall 5 (by decide)
              obtain rfl : b6 = true := hall 6 (by decide)
              exact hG0 _ _ _ (HF.out.2.2 rfl)
            · intro x80 x81 w' hFin
              obtain ⟨g7, cap7, rfl, ho7, hg7⟩ := hFin
              go_wp2_with fail
              go_roundw
              case rel => exact ⟨k + 1, s', by omega, by go_num, Lib.hid (HI9.out.grown HOM.out hg7), Hp', by rw [Hk.out]; exact ho7⟩
              case measure => simp [intOf]; omega
    · obtain rfl : k = e.length := by omega
      rw [List.take_length] at hp
      have hst : st = [t] := by have h1 := hp.out; rw [HE.out] at h1; injection h1 with h1; exact h1.symm
      subst hst
      have ho : Hid (OwnT wq (w.heap.size + 2) u6 [spT (ltrs s) t]) := ho
      obtain ⟨g, cS, hv, _, hgl, _, hgr⟩ := ho.out.blk (by simp)
      have hr := hgr 0 (by simp)
      rw [List.getElem_cons_zero, Nat.zero_mul] at hr
      have hv : u6 = .slice (some ⟨g, 0, none⟩) 1 cS := hv
      subst hv
      obtain ⟨F, hF⟩ : ∃ F, F = spT (ltrs s) t := ⟨_, rfl⟩
      rw [← hF] at hr
      have HFF := Lib.hid hF
      have HTh := Lib.hid (there9 hI.out.k4 F)
      clear hgr ho hF
      go_wp2_with (first | (refine wpList_load_mid rfl 107 (.tmp 84) rfl g 0 rfl _ _ hr Try.underlying107 rfl (by rw [inf9, Array.length_toList, tab9_size]) ?_; rw [Array.toArray_toList]) | (refine wpList_store_mid rfl 107 (.tmp 4) (.tmp 85) rfl (w.heap.size + 1) 0 (tab9 F) rfl rfl HTh.out (inf9s _) (tab9_one _) ?_))
      have hfin := set9 hI.out.k4 F
      refine bodyPost_ret (v := .agg (tab9 F)) (results_cell_row Try.results91 _ _ (w.heap.size + 1) _ _ _ _ rfl hfin Try.underlying107 rfl (inf9s _)) rfl ⟨by rw [HFF.out], ?_⟩
      exact bel_setCells (by omega) _ _ _ hI.out.bel
end Go.Proofs.Ytbcjhiponbfbnaa
