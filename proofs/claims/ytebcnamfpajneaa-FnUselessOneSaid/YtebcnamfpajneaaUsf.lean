/- Useful states: the program's and the reference's. -/
import Derived.Test.YtebcnamfpajneaaGL
import Derived.Test.YtebcnamfpajneaaXpl
import Derived.Test.YtebcnamfpajneaaGG
import Derived.Test.YtebcnamfpajneaaGC
set_option linter.unusedSimpArgs false
set_option linter.unusedVariables false
set_option linter.unusedSectionVars false
namespace Go.Proofs.Ytebcnamfpajneaa
open Go.RowKit
set_option maxRecDepth 100000
variable {S T : Nat → Prop}
/-- The marks of the states of M. -/
def uB (M : List Nat) (o : Nat → Bool) (s : Nat) : Bool := decide (s ∈ M) && o s
theorem uB_nil (o : Nat → Bool) (s : Nat) : uB [] o s = false := by simp [uB]
theorem uB_next (M : List Nat) (o : Nat → Bool) (s : Nat) : ∀ t, upd (uB M o) s (o s) t = uB (M ++ [s]) o t := fun t => by
  by_cases e : t = s
  · subst e; rw [upd_same]; simp [uB]
  · rw [upd_ne _ _ e]; simp [uB, e]
open Classical in
noncomputable def ubL (D : DfaD) : List Bool := if okD D then (List.range D.1.length).map (uB (rnd (dn D) 0 D.1.length) (leadB D)) else []
theorem ubL_pos {D : DfaD} (h : okD D) : ubL D = (List.range D.1.length).map (uB (rnd (dn D) 0 D.1.length) (leadB D)) := if_pos h
theorem ubL_neg {D : DfaD} (h : ¬ okD D) : ubL D = [] := if_neg h
theorem ubL_len {D : DfaD} (h : okD D) : (ubL D).length = D.1.length := by rw [ubL_pos h]; simp
theorem ubL_small (D : DfaD) : (ubL D).length ≤ 1000000000000 := by
  by_cases h : okD D
  · rw [ubL_len h]; have := h.1.2; omega
  · rw [ubL_neg h]; simp
theorem ubL_fB {D : DfaD} (h : okD D) {k : Nat} (hk : (rnd (dn D) 0 k).length = k) (hk2 : k ≤ D.1.length) : (ubL D).map Value.bool = fB D.1.length (uB (rnd (dn D) 0 k) (leadB D)) := by
  rw [ubL_pos h, rnd_done (dn D) (Nat.le_of_eq hk) hk2, List.map_map]; rfl
theorem RW.nilB {w w' : World} {v : Value} (hb : Below w.heap.size w w') (hv : w'.ownsRow w.heap.size 4 1 v 0 []) : RW 0 [] w (.returned v) w' := ⟨v, rfl, hb, ownFl hv⟩
set_option maxHeartbeats 400000 in
theorem useNext_c (vn ve : Value) (D : DfaD) (s c B1 : Nat) (w : World) (h : DfaR S w vn ve D) (hD : okD D) (hs : s < D.1.length) (hc : c < 3)
    (K1 : w.heap[B1]? = some (.cells #[vn, ve] 26 (0, 0))) :
    Calls Try.prog 72 (#[.int .i64 s, .int .i64 c] ++ #[.pointer (some ⟨B1, 0, none⟩)]) w (RIn w (· = (dn D s c : Int))) := by
  obtain ⟨c0, c1, _, _⟩ := blk2 K1
  obtain ⟨a, ca, b, d, rfl, rfl, hn, hm⟩ := h.shapes
  obtain ⟨bn, on, br, or_, cr, e1, hs1, hs2, hs3⟩ := h.step hD hs hc
  cases e1
  have hsI : (s : Int) < (D.1.length : Int) := by omega
  have hcI : (c : Int) < 3 := by omega
  obtain ⟨u, hu⟩ : ∃ u, u = dn D s c := ⟨_, rfl⟩
  rw [← hu] at hs2 hs3 ⊢
  clear h hD K1 hu
  go_enter Try.func72, Try.ntmps72
  go_wp2
  go_ret
  exact RIn.mk (Below.refl _ _) rfl
theorem body_useNext : HasBody 72 := by
  intro args w
  kernel_rfl
theorem useEnds_c (vn ve : Value) (D : DfaD) (s B1 : Nat) (w : World) (h : DfaR S w vn ve D) (hD : okD D) (hs : s < D.1.length) (K1 : w.heap[B1]? = some (.cells #[vn, ve] 26 (0, 0))) :
    Calls Try.prog 73 (#[.int .i64 s] ++ #[.pointer (some ⟨B1, 0, none⟩)]) w (RB w (de D s = true)) := by
  obtain ⟨c0, c1, _, _⟩ := blk2 K1
  obtain ⟨a, ca, b, d, rfl, rfl, hn, hm⟩ := h.shapes
  obtain ⟨be, oe, rfl, he⟩ := h.mark hD hs
  have hsI : (s : Int) < (D.2.length : Int) := by rw [hD.2.1]; omega
  have hsn : s < D.2.length := by rw [hD.2.1]; omega
  generalize de D s = x at *
  clear h hD K1
  go_enter Try.func73, Try.ntmps73
  go_wp2
  go_ret
  exact RB.mk Iff.rfl
theorem body_useEnds : HasBody 73 := by
  intro args w
  kernel_rfl
set_option maxHeartbeats 2000000 in
theorem UsefulStates_c (vn ve : Value) (D : DfaD) (w : World) (h : DfaR S w vn ve D) : Calls Try.prog 31 #[.agg #[vn, ve]] w (RW (ubL D).length ((ubL D).map .bool) w) := by
  obtain ⟨a, c, b, d, rfl, rfl, hn, hm⟩ := (h).shapes
  obtain ⟨W, hW⟩ : ∃ W, W = w.alloc (.cells #[.slice a D.1.length c, .slice b D.2.length d] 26) := ⟨_, rfl⟩
  have Hb0 : Hid (Below w.heap.size w W) := by rw [hW]; exact (Below.refl _ _).alloc (Nat.le_refl _) _
  have c0 : W.cell? ⟨w.heap.size, 0, none⟩ = some (.slice a D.1.length c) := by rw [hW, World.cell?_alloc_mark]; rfl
  have c1 : W.cell? ⟨w.heap.size, 1, none⟩ = some (.slice b D.2.length d) := by rw [hW, World.cell?_alloc_mark]; rfl
  have K0 : Hid (W.heap[w.heap.size]? = some (.cells #[.slice a D.1.length c, .slice b D.2.length d] 26 (0, 0))) := by rw [hW]; exact blkNew _ _ rfl
  have Hz : Hid (W.heap.size = w.heap.size + 1) := by rw [hW]; simp [Hid]
  have H := Lib.hid ((h).stay (kpB Hb0.out)); clear h
  have HW := Lib.hid hW; clear hW
  rw [HW.out] at c0 c1
  go_enter Try.func31, Try.ntmps31
  go_wp2_with fail
  clear c0 c1
  rw [← HW.out]
  refine (DfaValid_c _ _ D W H.out).mono ?_
  rintro e w1 ⟨ok, rfl, hb1, hok⟩
  have hB := Lib.hid (Hb0.out.trans (hb1.mono Hb0.out.size))
  have K1 := Lib.hid (blkBel hb1 K0.out)
  have H1 := Lib.hid (H.out.stay (kpB hb1))
  obtain ⟨c0, c1, _, _⟩ := blk2 K1.out
  clear hb1 K0 H HW Hz Hb0
  cases ok
  · have hno := hbF hok
    clear hok
    go_wp2
    go_ret
    rw [ubL_neg hno]
    exact RW.nilB hB.out (World.ownsRow_nil _ _ _ _)
  · have hyes := Lib.hid (hbT hok)
    clear hok
    have hn40 : D.1.length ≤ 40 := hyes.out.1.2
    have hn1 : 1 ≤ D.1.length := hyes.out.1.1
    have HCall := exploredInt_c (P := fun s => s < D.1.length) (dn D) (de D) 0 D.1.length _ _ _ _ w1 hn1 (fun s hs c hc => dn_lt hyes.out hs hc) (fun s hs => by omega) ⟨hn1, by omega⟩ body_useNext body_useEnds
      (fun s c w3 hs hc hb3 => useNext_c _ _ D s c _ w3 (H1.out.stay (kpB hb3)) hyes.out hs hc (blkBel hb3 K1.out))
      (fun s w3 hs hb3 => useEnds_c _ _ D s _ w3 (H1.out.stay (kpB hb3)) hyes.out hs (blkBel hb3 K1.out))
    have HCl := Lib.hid HCall
    clear HCall
    have hover : ∀ k, D.1.length < (rnd (dn D) 0 k).length → False := fun k hk => by
      have := rnd_len_le (nx := dn D) (s0 := 0) (n := D.1.length) (by omega) (dn_lt3 hyes.out) k
      omega
    have Hov := Lib.hid hover
    clear hover
    go_wp2_with fail
    clear c0 c1
    refine HCl.out.mono ?_
    rintro e w2 ⟨v1, v2, vM, ok, rfl, hb2, hx⟩
    have hx2 := hx.out.resolve_right (fun ⟨_, _, _, _, k, hk⟩ => Hov.out k hk)
    obtain ⟨rfl, k, hk1, hk2, hd, hM⟩ := hx2
    have HM := Lib.hid hM
    rw [flat1] at HM
    have hk0 : 0 < k := by rw [← hk1]; exact rnd_pos _ _ _
    obtain ⟨aN, cN, aE, cE, rfl, rfl, _, _⟩ := hd.rd.shapes
    have HPM := Lib.hid (rnd_all (dn D) (P := (· < D.1.length)) (s0 := 0) (by omega) (dn_lt3 hyes.out) k)
    have Hub := Lib.hid (ubL_fB hyes.out hk1 hk2)
    generalize (autD (dn D) (de D) (rnd (dn D) 0 k)).1.length = mN at *
    generalize (autD (dn D) (de D) (rnd (dn D) 0 k)).2.length = mE at *
    obtain ⟨M, hMe⟩ : ∃ M, M = rnd (dn D) 0 k := ⟨_, rfl⟩
    rw [← hMe] at HM HPM Hub hk1
    have Hk1 := Lib.hid hk1
    clear hMe hx hd hM HCl Hov hk1
    obtain ⟨gm, capm, rfl, hgm, _, _⟩ := own_some HM.out hk0
    obtain ⟨W3, hW3⟩ : ∃ W3, W3 = w2.alloc (.cells #[.slice aN mN cN, .slice aE mE cE] 26) := ⟨_, rfl⟩
    have hb3 : Below w1.heap.size w1 W3 := by rw [hW3]; exact hb2.alloc hb2.size _
    have HM3 : Hid (W3.ownsRow w1.heap.size 3 1 (.slice (some ⟨gm, 0, none⟩) k capm) k (M.map fun s : Nat => .int .i64 s)) := by rw [hW3]; exact HM.out.alloc _
    have HW3 := Lib.hid hW3
    have K3 := Lib.hid (blkBel hb3 K1.out)
    clear hW3
    obtain ⟨c0, c1, _, _⟩ := blk2 K3.out
    rw [HW3.out] at c0 c1
    go_wp2_with fail
    clear c0 c1
    rw [← HW3.out]
    refine (leading_c _ _ D W3 (H1.out.stay (kpB hb3)) hyes.out).mono ?_
    rintro e w4 ⟨vL, rfl, hb4, hoL⟩
    obtain ⟨gl, capl, rfl, hgl, _, _⟩ := own_some hoL.out (by omega)
    have hb4' := hb3.trans (hb4.mono hb3.size)
    have HB4 := Lib.hid (hB.out.trans (hb4'.mono hB.out.size))
    have HM4 : Hid (w4.ownsRow w1.heap.size 3 1 (.slice (some ⟨gm, 0, none⟩) k capm) k (M.map fun s : Nat => .int .i64 s)) := ownStay HM3.out hb4
    have hz34 := hb4.size
    have hz13 := hb3.size
    have hzw1 := hB.out.size
    have K4 := Lib.hid (blkBel hb4' K1.out)
    obtain ⟨c0, c1, _, _⟩ := blk2 K4.out
    clear HM HM3 HW3 K3 hb4 hb3 hb2 hb4'
    go_wp2_with (
      (at_make; refine makeRow ezBool (by decide) rfl (.tmp 27) (.tmp 27) rfl D.1.length _ rfl rfl (by omega) ?_)
      intro w5 hr5 hb5 hz5)
    clear c0 c1
    have HR5 : Hid (w5.ownsRow w4.heap.size 4 1 (.slice (some ⟨w4.heap.size, 0, none⟩) D.1.length D.1.length) D.1.length (fB D.1.length (uB (M.take 0) (leadB D)))) := by
      have e : (List.replicate D.1.length false).map Value.bool = fB D.1.length (uB (M.take 0) (leadB D)) := by
        rw [List.take_zero]
        apply List.ext_getElem (by simp [fB])
        intro i h1 h2
        simp [fB, uB]
      have := hr5.out
      unfold Row at this
      rw [e] at this
      exact ⟨by rw [fB_len]; omega, .inr ⟨w4.heap.size, D.1.length, _, rfl, Nat.le_refl _, this, Nat.le_refl _, by unfold maxLen; omega, by simp [fB], by rw [List.take_of_length_le (by simp [fB])]⟩⟩
    have HMc : Hid (∀ w' : World, Below w4.heap.size w4 w' → (∀ j s, M[j]? = some s → w'.cell? ⟨gm, j, none⟩ = some (.int .i64 ((s : Nat) : Int))) ∧ ∀ s, s < D.1.length → w'.cell? ⟨gl, s, none⟩ = some (.bool (leadB D s))) := fun w' hb' => by
      have hk := kpB (S := fun _ => True) hb'
      refine ⟨fun j s hj => hk _ _ trivial ?_, fun s hs => hk _ _ trivial (own_fB hoL.out hs)⟩
      obtain ⟨hl, hj⟩ := List.getElem?_eq_some_iff.1 hj
      rw [HM4.out.cellAt j (by have := Hk1.out; omega), List.getElem?_map, List.getElem?_eq_getElem hl, hj]; rfl
    have hbb := Lib.hid (Below.refl w4.heap.size w4 |>.trans hb5)
    clear hr5 hb5 hz5 hoL HM4
    generalize hG : w4.heap.size = G at *
    have HG := Lib.hid hG
    clear hG
    go_loopw [31] (fun i wr => ∃ j : Nat, j ≤ k ∧ i = .int .i64 j ∧ Below G w4 wr ∧ Hid (wr.ownsRow G 4 1 (.slice (some ⟨G, 0, none⟩) D.1.length D.1.length) D.1.length (fB D.1.length (uB (M.take j) (leadB D))))) (fun i _ => k - (intOf i).toNat)
    case atStart => exact ⟨0, by omega, rfl, hbb.out, HR5⟩
    case round =>
      clear hbb HR5
      obtain ⟨j, hj, rfl, hb, ho⟩ := hrel
      by_cases hlt : j < k
      · have hjM : j < M.length := by rw [Hk1.out]; exact hlt
        obtain ⟨s, hs⟩ : ∃ s, s = M[j] := ⟨_, rfl⟩
        have Htk : Hid (M.take (j + 1) = M.take j ++ [s]) := by rw [hs]; exact List.take_succ_eq_append_getElem hjM
        have hsn : s < D.1.length := HPM.out s (by rw [hs]; exact List.getElem_mem _)
        obtain ⟨hm1, hm2⟩ := HMc.out wr hb
        have d1 := hm1 j s (by rw [List.getElem?_eq_getElem hjM, hs])
        have d2 := hm2 s hsn
        have d3 := own_fB ho.out hsn
        have fz := ho.out.frozenAt s
        have hup := own_upd ho.out s (leadB D s)
        rw [fB_congr (fun t _ => uB_next (M.take j) (leadB D) s t), ← Htk.out] at hup
        have Hup := Lib.hid hup
        have Hbs := fun b : Bool => hb.setCell (p := ⟨G, s, none⟩) (Nat.le_refl _) (.bool b)
        have hsI : (s : Int) < (D.1.length : Int) := by omega
        have hjI : (j : Int) < (k : Int) := by omega
        generalize leadB D s = x at *
        generalize uB (M.take j) (leadB D) s = y at *
        clear hs hm1 hm2 hup
        go_wp2
        go_roundw
        case rel => exact ⟨j + 1, by omega, by go_num, Hbs _, Hup⟩
        case measure => simp [intOf]; omega
      · obtain rfl : j = k := by omega
        have htake : M.take j = M := List.take_of_length_le (by rw [Hk1.out]; omega)
        rw [htake] at ho
        have hnk : ¬ ((j : Int) < (j : Int)) := by omega
        have HB5 := Lib.hid (HB4.out.trans (hb.mono (by have := HG.out; have := HB4.out.size; omega)))
        go_wp2
        go_ret
        rw [ubL_len hyes.out, Hub.out]
        exact ⟨_, rfl, HB5.out, (ownFl ho.out).mono (fun b hb => by have h0 : G ≤ b := hb; have := HG.out; have := HB4.out.size; omega)⟩
set_option maxHeartbeats 400000 in
theorem l7Name_no (v : Value) (xs : List Int) (x : Int) (w : World) (h : Ints S w v xs) (hm : ∀ j (hj : j < xs.length), xs[j] ≠ x) :
    Calls Try.prog 68 #[v, .int .i64 x] w (fun e w' => e = .returned (.int .i64 (-1)) ∧ w' = w) := by
  obtain ⟨a, cap, rfl, hn⟩ := h.shape
  have H := Lib.hid h; clear h
  have HM := Lib.hid hm; clear hm
  go_enter Try.func68, Try.ntmps68
  go_wp2
  go_loop [5] (fun i => ∃ j : Nat, j ≤ xs.length ∧ i = .int .i64 j) (fun i => xs.length - (intOf i).toNat)
  case atStart => exact ⟨0, by omega, rfl⟩
  case round =>
    obtain ⟨j, hj, rfl⟩ := hrel
    by_cases hlt : j < xs.length
    · obtain ⟨b, off, rfl, hc⟩ := H.out.at (k := j) hlt
      have hjI : (j : Int) < (xs.length : Int) := by omega
      have hne : (xs[j] == x) = false := by
        have := HM.out j hlt
        simpa using this
      generalize xs[j] = y at *
      go_wp2
      go_round
      case rel => exact ⟨j + 1, by omega, by go_num⟩
      case measure => simp [intOf]; omega
    · obtain rfl : j = xs.length := by omega
      have hnk : ¬ ((xs.length : Int) < (xs.length : Int)) := by omega
      go_wp2
      go_ret
      exact ⟨rfl, rfl⟩
/-- The marks, of which k are done. -/
def uK (M : List Nat) (o : Nat → Bool) (k s : Nat) : Bool := if s < k then uB M o s else o s
theorem uK_at (M : List Nat) (o : Nat → Bool) (k : Nat) : uK M o k k = o k := if_neg (Nat.lt_irrefl k)
theorem uK_zero (M : List Nat) (o : Nat → Bool) (s : Nat) : o s = uK M o 0 s := (if_neg (Nat.not_lt_zero s)).symm
theorem uK_next (M : List Nat) (o : Nat → Bool) (k : Nat) : ∀ t, upd (uK M o k) k (uB M o k) t = uK M o (k + 1) t := fun t => by
  by_cases e : t = k
  · subst e; rw [upd_same]; unfold uK; rw [if_pos (by omega)]
  · rw [upd_ne _ _ e]
    unfold uK
    by_cases h : t < k
    · rw [if_pos h, if_pos (by omega)]
    · rw [if_neg h, if_neg (by omega)]
theorem uK_all {M : List Nat} {o : Nat → Bool} {n s : Nat} (h : s < n) : uK M o n s = uB M o s := if_pos h
set_option maxHeartbeats 2000000 in
theorem sUsefulStates_c (vn ve : Value) (D : DfaD) (w : World) (h : DfaR S w vn ve D) : Calls Try.prog 32 #[.agg #[vn, ve]] w (RW (ubL D).length ((ubL D).map .bool) w) := by
  obtain ⟨a, c, b, d, rfl, rfl, hn, hm⟩ := (h).shapes
  obtain ⟨W, hW⟩ : ∃ W, W = w.alloc (.cells #[.slice a D.1.length c, .slice b D.2.length d] 26) := ⟨_, rfl⟩
  have Hb0 : Hid (Below w.heap.size w W) := by rw [hW]; exact (Below.refl _ _).alloc (Nat.le_refl _) _
  have c0 : W.cell? ⟨w.heap.size, 0, none⟩ = some (.slice a D.1.length c) := by rw [hW, World.cell?_alloc_mark]; rfl
  have c1 : W.cell? ⟨w.heap.size, 1, none⟩ = some (.slice b D.2.length d) := by rw [hW, World.cell?_alloc_mark]; rfl
  have K0 : Hid (W.heap[w.heap.size]? = some (.cells #[.slice a D.1.length c, .slice b D.2.length d] 26 (0, 0))) := by rw [hW]; exact blkNew _ _ rfl
  have Hz : Hid (W.heap.size = w.heap.size + 1) := by rw [hW]; simp [Hid]
  have H := Lib.hid ((h).stay (kpB Hb0.out)); clear h
  have HW := Lib.hid hW; clear hW
  rw [HW.out] at c0 c1
  go_enter Try.func32, Try.ntmps32
  go_wp2_with fail
  clear c0 c1
  rw [← HW.out]
  refine (sDfaValid_c _ _ D W H.out).mono ?_
  rintro e w1 ⟨ok, rfl, hb1, hok⟩
  have hB := Lib.hid (Hb0.out.trans (hb1.mono Hb0.out.size))
  have K1 := Lib.hid (blkBel hb1 K0.out)
  have H1 := Lib.hid (H.out.stay (kpB hb1))
  obtain ⟨c0, c1, _, _⟩ := blk2 K1.out
  clear hb1 K0 H HW Hz Hb0
  cases ok
  · have hno := hbF hok
    clear hok
    have ho : Hid ((w1.alloc (.cells #[] 4)).ownsRow w.heap.size 4 1 (.slice (some ⟨w1.heap.size, 0, none⟩) 0 0) 0 []) := ownLit [] hB.out.size (by omega) rfl
    go_wp2
    go_ret
    rw [ubL_neg hno]
    exact RW.nilB (hB.out.alloc hB.out.size _) ho.out
  · have hyes := Lib.hid (hbT hok)
    clear hok
    have hn40 : D.1.length ≤ 40 := hyes.out.1.2
    have hn1 : 1 ≤ D.1.length := hyes.out.1.1
    go_wp2_with fail
    clear c0 c1
    refine (l14Useful_c _ _ D w1 H1.out hyes.out).mono ?_
    rintro e w2 ⟨vL, rfl, hb2, hoL⟩
    obtain ⟨gl, capl, rfl, hgl, cul, hgl2⟩ := own_some hoL.out (by omega)
    have hgl3 := (Array.getElem?_eq_some_iff.1 hgl2).1
    have K2 := Lib.hid (blkBel hb2 K1.out)
    have H2 := Lib.hid (H1.out.stay (kpB hb2))
    have hz12 := hb2.size
    have hzw1 := hB.out.size
    obtain ⟨c0, c1, _, _⟩ := blk2 K2.out
    go_wp2_with fail
    clear c0 c1
    refine (l7Order_c _ _ D w2 H2.out hyes.out).mono ?_
    rintro e w3 ⟨vM, rfl, hb3, hM⟩
    obtain ⟨m, hk1, hk2, hoM⟩ := hM.out
    have hm0 : 0 < m := by rw [← hk1]; exact rnd_pos _ _ _
    have HO := Lib.hid hoM
    have HL3 : Hid (w3.ownsRow w1.heap.size 4 1 (.slice (some ⟨gl, 0, none⟩) D.1.length capl) D.1.length (fB D.1.length (leadB D))) := ownStay hoL.out hb3
    have Hub := Lib.hid (ubL_fB hyes.out hk1 hk2)
    obtain ⟨M, hMe⟩ : ∃ M, M = rnd (dn D) 0 m := ⟨_, rfl⟩
    rw [← hMe] at HO Hub hk1
    have Hk1 := Lib.hid hk1
    clear hMe hM hoM hk1
    obtain ⟨gm, capm, rfl, hgm, _, _⟩ := own_some HO.out hm0
    have HL4 : Hid (w3.ownsRow w1.heap.size 4 1 (.slice (some ⟨gl, 0, none⟩) D.1.length capl) D.1.length (fB D.1.length (uK M (leadB D) 0))) := by
      rw [← fB_congr (fun s _ => uK_zero M (leadB D) s)]
      exact HL3.out
    have hbb : Below w1.heap.size w1 w3 := hb2.trans (hb3.mono hb2.size)
    clear HL3 hoL hgl2 hb3 hb2 K2 H2 K1 H1
    go_wp2_with fail
    go_loopw [5] (fun i wr => ∃ k : Nat, k ≤ D.1.length ∧ i = .int .i64 k ∧ Below w1.heap.size w1 wr ∧ Hid (wr.ownsRow w2.heap.size 3 1 (.slice (some ⟨gm, 0, none⟩) m capm) m (M.map fun s : Nat => .int .i64 s)) ∧
      Hid (wr.ownsRow w1.heap.size 4 1 (.slice (some ⟨gl, 0, none⟩) D.1.length capl) D.1.length (fB D.1.length (uK M (leadB D) k)))) (fun i _ => D.1.length - (intOf i).toNat)
    case atStart => exact ⟨0, by omega, rfl, hbb, HO, HL4⟩
    case round =>
      clear hbb HO HL4
      obtain ⟨k, hk, rfl, hb, hoM, ho⟩ := hrel
      by_cases hlt : k < D.1.length
      · have d1 := own_fB ho.out hlt
        rw [uK_at] at d1
        have fz := ho.out.frozenAt k
        have hup := own_upd ho.out k (uB M (leadB D) k)
        rw [fB_congr (fun t _ => uK_next M (leadB D) k t)] at hup
        have Hup := Lib.hid hup
        have Hbs := fun b : Bool => hb.setCell (p := ⟨gl, k, none⟩) hgl (.bool b)
        have HMs : Hid (∀ b : Bool, (wr.setCell ⟨gl, k, none⟩ (.bool b)).ownsRow w2.heap.size 3 1 (.slice (some ⟨gm, 0, none⟩) m capm) m (M.map fun s : Nat => .int .i64 s)) := fun b =>
          hoM.out.kept (grownSet wr gl k (.bool b)) (.inr (fun e => by simp [Value.ownBlock] at e; omega))
        have hkI : (k : Int) < (D.1.length : Int) := by omega
        have HI : Hid (Ints (w2.heap.size ≤ ·) wr (.slice (some ⟨gm, 0, none⟩) m capm) (M.map fun s : Nat => (s : Int))) := by
          have := (ownFl hoM.out).fl
          unfold Hid Ints
          rw [List.length_map, List.map_map, Hk1.out]
          exact this
        clear hup
        obtain ⟨x, hx⟩ : ∃ x, x = leadB D k := ⟨_, rfl⟩
        rw [← hx] at d1
        obtain ⟨y, hy⟩ : ∃ y, y = uB M (leadB D) k := ⟨_, rfl⟩
        rw [← hy] at Hup
        cases x
        · have e : y = false := by rw [hy]; unfold uB; rw [← hx, Bool.and_false]
          subst e
          clear hx hy
          go_wp2
          go_roundw
          case rel => exact ⟨k + 1, by omega, by go_num, Hbs _, HMs.out _, Hup⟩
          case measure => simp [intOf]; omega
        · by_cases hm : k ∈ M
          · have e : y = true := by rw [hy]; unfold uB; rw [← hx, Bool.and_true]; exact decide_eq_true hm
            subst e
            obtain ⟨hi1, hi2, hi3⟩ := idx_least hm
            have HC := Lib.hid (l7Name_c _ _ _ _ wr HI.out hi1 hi2 hi3)
            clear hx hy hi1 hi2 hi3 hm
            generalize M.idxOf k = z at *
            go_wp2_with fail
            refine HC.out.mono ?_
            rintro e w5 ⟨rfl, rfl⟩
            have hz0 : (0 : Int) ≤ (z : Int) := by omega
            go_wp2
            go_roundw
            case rel => exact ⟨k + 1, by omega, by go_num, Hbs _, HMs.out _, Hup⟩
            case measure => simp [intOf]; omega
          · have e : y = false := by rw [hy]; unfold uB; rw [decide_eq_false hm, Bool.false_and]
            subst e
            have HC := Lib.hid (l7Name_no _ _ (k : Int) wr HI.out (fun j hj e => hm (by
              rw [List.getElem_map] at e
              have e' : M[j]'(by simpa using hj) = k := by omega
              rw [← e']; exact List.getElem_mem _)))
            clear hx hy hm
            go_wp2_with fail
            refine HC.out.mono ?_
            rintro e w5 ⟨rfl, rfl⟩
            go_wp2
            go_roundw
            case rel => exact ⟨k + 1, by omega, by go_num, Hbs _, HMs.out _, Hup⟩
            case measure => simp [intOf]; omega
      · obtain rfl : k = D.1.length := by omega
        have hnk : ¬ ((D.1.length : Int) < (D.1.length : Int)) := by omega
        have hofin := Lib.hid (ownBase ho.out hzw1)
        have HB5 := Lib.hid (hB.out.trans (hb.mono hzw1))
        have Hcg := Lib.hid (fB_congr (n := D.1.length) (fun s hs => uK_all (M := M) (o := leadB D) hs))
        go_wp2
        go_ret
        rw [ubL_len hyes.out, Hub.out, ← Hcg.out]
        exact ⟨_, rfl, HB5.out, ownFl hofin.out⟩
end Go.Proofs.Ytebcnamfpajneaa
