/- The first word of an automaton: the program's. -/
import Derived.Test.YthdbgpdidolmaaaFwd
import Derived.Test.YthdbgpdidolmaaaQue
import Derived.Test.YthdbgpdidolmaaaRov
import Derived.Test.YthdbgpdidolmaaaDfg
import Derived.Test.YthdbgpdidolmaaaRow
import Derived.StillTailTactics
import Derived.Deep.LoopGhost
namespace Go.Proofs.Ythdbgpdidolmaaa
open Go.RowKit
set_option maxRecDepth 100000
variable {S T : Nat → Prop}
/-- A list, one element a state. -/
def ml {α : Type} (n : Nat) (f : Nat → α) : List α := (List.range n).map f
theorem ml_len {α : Type} (n : Nat) (f : Nat → α) : (ml n f).length = n := by simp [ml]
theorem ml_get {α : Type} {n : Nat} (f : Nat → α) {s : Nat} (h : s < n) : (ml n f)[s]'(by rw [ml_len]; exact h) = f s := by simp [ml]
theorem ml_set {α : Type} {n : Nat} {f g : Nat → α} {k : Nat} {b : α} (h : ∀ s, g s = if s = k then b else f s) : (ml n f).set k b = ml n g := by
  apply List.ext_getElem (by simp [ml])
  intro i h1 h2
  have hi : i < n := by rw [ml_len] at h2; exact h2
  rw [List.getElem_set, ml_get g hi, h]
  by_cases e : k = i
  · subst e; simp
  · rw [if_neg e, if_neg (Ne.symm e)]; simp [ml]
theorem ml_rep {α : Type} (n : Nat) (x : α) : List.replicate n x = ml n (fun _ => x) := by apply List.ext_getElem <;> simp [ml]
theorem ml_congr {α : Type} {n : Nat} {f g : Nat → α} (h : ∀ s, f s = g s) : ml n f = ml n g := by rw [show f = g from funext h]
/-- The marks of the states that are met. -/
def sn (M : List Nat) (t : Nat) : Bool := decide (t ∈ M)
/-- Their first words. -/
noncomputable def wl (nx : Nat → Nat → Nat) (M : List Nat) (t : Nat) : ByteArray := if t ∈ M then wS (fk nx 0 t) else ByteArray.empty
/-- The queue's cells. -/
def qc (M : List Nat) : List Value := M.map fun s : Nat => .int .i64 s
theorem sn_add {M : List Nat} {t : Nat} (h : t ∉ M) (s : Nat) : sn (M ++ [t]) s = if s = t then true else sn M s := by
  by_cases e : s = t
  · subst e; simp [sn]
  · simp [sn, e]
theorem wl_add {nx : Nat → Nat → Nat} {M : List Nat} {t : Nat} (h : t ∉ M) (s : Nat) : wl nx (M ++ [t]) s = if s = t then wS (fk nx 0 t) else wl nx M s := by
  by_cases e : s = t
  · subst e; simp [wl]
  · simp [wl, e]
theorem qc_add (M : List Nat) (t k : Nat) (hk : k ≤ M.length) : qc ((M ++ [t]).drop k) = qc (M.drop k) ++ [.int .i64 t] := by
  rw [List.drop_append_of_le_length hk]; simp [qc]
theorem qc_cut {M : List Nat} {k : Nat} (hk : k < M.length) : qc (M.drop k) = .int .i64 (M[k] : Nat) :: qc (M.drop (k + 1)) := by
  unfold qc; rw [List.drop_eq_getElem_cons hk, List.map_cons]
noncomputable def fwB (L : Lg) : Bool := pb (hasW L)
theorem letterText_c (c : Nat) (w : World) (hc : c < 3) : Calls Try.prog 74 #[.int .i64 c] w (fun e w' => e = .returned (.string (lt c)) ∧ w' = w) := by
  rcases (by omega : c = 0 ∨ c = 1 ∨ c = 2) with rfl | rfl | rfl
  all_goals
    go_enter Try.func74, Try.ntmps74
    go_wp2
    go_ret
    exact ⟨rfl, rfl⟩
set_option maxHeartbeats 2000000 in
theorem firstWord_c (vn ve : Value) (D : DfaD) (w : World) (h : DfaR S w vn ve D) (hD : okG D) (hn2 : D.1.length ≤ 2000) :
    Calls Try.prog 67 #[.agg #[vn, ve]] w (RO w (.tuple #[.string (fstW (lgD D)), .bool (fwB (lgD D))])) := by
  obtain ⟨a, c, b, d, rfl, rfl, hn, hm⟩ := (h).shapes
  obtain ⟨W, hW⟩ : ∃ W, W = w.alloc (.cells #[.slice a D.1.length c, .slice b D.2.length d] 36) := ⟨_, rfl⟩
  have Hb0 : Hid (Below w.heap.size w W) := by rw [hW]; exact (Below.refl _ _).alloc (Nat.le_refl _) _
  have c0 : W.cell? ⟨w.heap.size, 0, none⟩ = some (.slice a D.1.length c) := by rw [hW, World.cell?_alloc_mark]; rfl
  have c1 : W.cell? ⟨w.heap.size, 1, none⟩ = some (.slice b D.2.length d) := by rw [hW, World.cell?_alloc_mark]; rfl
  have K0 : Hid (W.heap[w.heap.size]? = some (.cells #[.slice a D.1.length c, .slice b D.2.length d] 36 (0, 0))) := by rw [hW]; exact blkNew _ _ rfl
  have Hz : Hid (W.heap.size = w.heap.size + 1) := by rw [hW]; simp [Hid]
  have H := Lib.hid ((h).stay (kpB Hb0.out)); clear h
  have HW := Lib.hid hW; clear hW
  have HD := Lib.hid hD
  have hn1 : 1 ≤ D.1.length := hD.1
  have hn0I : (0 : Int) < (D.1.length : Int) := by omega
  have Hdl := Lib.hid hD.2.1
  have hWl : w.heap.size < W.heap.size := by have := (Array.getElem?_eq_some_iff.1 K0.out).1; exact this
  clear hD
  rw [HW.out] at c0 c1
  go_enter Try.func67, Try.ntmps67
  go_wp2_with (first
    | (at_make; refine makeRow ezStr (by decide) rfl (.tmp 12) (.tmp 12) rfl D.1.length _ rfl rfl (by omega) ?_; rw [← HW.out]; intro w1 hr1 hb1 hz1; have K1 := Lib.hid (blkBel hb1 K0.out); obtain ⟨c0', c1', _, _⟩ := blk2 K1.out)
    | (at_make; refine makeRow ezBool (by decide) rfl (.tmp 16) (.tmp 16) rfl D.1.length _ rfl rfl (by omega) ?_; intro w2 hr2 hb2 hz2; have d0 := hr2.out.cell (i := 0) (by rw [List.length_replicate]; omega); rw [List.getElem_replicate] at d0; have f0 := hr2.out.fz 0))
  clear c0 c1 c0' c1' d0 f0
  have hl1 := hr1.out.lt
  have hl2 := hr2.out.lt
  have hz12 : W.heap.size ≤ w1.heap.size := hb1.size
  obtain ⟨B1, hB1⟩ : ∃ B1, B1 = W.heap.size := ⟨_, rfl⟩
  obtain ⟨B2, hB2⟩ : ∃ B2, B2 = w1.heap.size := ⟨_, rfl⟩
  obtain ⟨B3, hB3⟩ : ∃ B3, B3 = w2.heap.size := ⟨_, rfl⟩
  rw [← hB1] at hr1 hl1
  rw [← hB2] at hr2 hl2 hl1
  rw [← hB3] at hl2
  have hW2 := Lib.hid (hb1.trans (hb2.mono hb1.size))
  have hr1' : Hid (RowS w2 B1 (List.replicate D.1.length ByteArray.empty)) := hr1.out.stay hb2
  clear hr1
  have hs2 := Lib.hid (hr2.out.set 0 true)
  rw [ml_rep, ml_set (g := sn [0]) (fun s => by by_cases e : s = 0 <;> simp [sn, e])] at hs2
  have hs1 := Lib.hid (hr1'.out.far (c := B2) (o := 0) (by omega) (.bool true))
  rw [ml_rep, ml_congr (g := wl (dn D) [0]) (fun s => by
    by_cases e : s = 0
    · subst e; simp [wl, fk_zero, wS_zero]
    · simp [wl, e])] at hs1
  have hWB1 : W.heap.size ≤ B1 := by omega
  have hWB2 : W.heap.size ≤ B2 := by omega
  have hW3 := Lib.hid (hW2.out.setCell (p := ⟨B2, 0, none⟩) hWB2 (.bool true))
  have hsz3 : (w2.setCell ⟨B2, 0, none⟩ (.bool true)).heap.size = B3 := by rw [hB3]; simp [World.setCell]
  obtain ⟨W4, hW4⟩ : ∃ W4, W4 = (w2.setCell ⟨B2, 0, none⟩ (.bool true)).alloc (.cells #[.int .i64 0] 3) := ⟨_, rfl⟩
  have hq4 : QS B3 W4 (.slice (some ⟨B3, 0, none⟩) 1 1) 1 (qc (([0] : List Nat).drop 0)) := by
    have := QS.one (base := B3) (w2.setCell ⟨B2, 0, none⟩ (.bool true)) 3 (.int .i64 0) (by rw [hsz3]; exact Nat.le_refl _)
    rw [hsz3] at this
    rw [hW4]; exact this
  have hr4 : Hid (RowS W4 B1 (ml D.1.length (wl (dn D) [0]))) := by rw [hW4]; exact blkOld hs1.out
  have hs4 : Hid (RowB W4 B2 (ml D.1.length (sn [0]))) := by rw [hW4]; exact blkOld hs2.out
  have hb4 : Below W.heap.size W W4 := by rw [hW4]; exact hW3.out.alloc hW3.out.size _
  have hz4 : B3 ≤ W4.heap.size := by rw [hW4, World.size_alloc, hsz3]; omega
  rw [← hB1, ← hB2, ← hW4]
  clear hW4 hsz3 hW3 hs1 hs2 hr1' hr2 hz1 hz2 hb1 hb2 K1 hW2
  go_wp2_with fail
  rw [← hB3]
  have Hd1 := Lib.hid hB1
  have Hd2 := Lib.hid hB2
  have Hd3 := Lib.hid hB3
  clear hB1 hB2 hB3
  have hqc : Hid (rnd (dn D) 0 0 = [0]) := rfl
  go_loopg [6] D.1.length (fun m v6 wr => ∃ (k : Nat) (M : List Nat), m + k = D.1.length ∧ k ≤ M.length ∧ Hid (M = rnd (dn D) 0 k) ∧ QS B3 wr v6 (M.length - k) (qc (M.drop k)) ∧ B3 ≤ wr.heap.size ∧ Below W.heap.size W wr ∧
    Hid (RowS wr B1 (ml D.1.length (wl (dn D) M))) ∧ Hid (RowB wr B2 (ml D.1.length (sn M))) ∧ Hid (∀ j (h : j < M.length), j < k → de D M[j] = false))
  case atStart => exact ⟨0, [0], by omega, by simp, rfl, hq4, hz4, hb4, hr4, hs4, fun j _ hj => absurd hj (Nat.not_lt_zero _)⟩
  case round =>
    clear hq4 hz4 hb4 hr4 hs4 hqc
    obtain ⟨k, M, hmk, hkM, HM, hq, hz, hb, hr, hs, hno⟩ := hrel
    have hMn : M.length ≤ D.1.length := by rw [HM.out]; exact rnd_len_le (by omega) (fun s hs => ⟨dn_ltG HD.out hs (by omega), dn_ltG HD.out hs (by omega), dn_ltG HD.out hs (by omega)⟩) k
    have HP : Hid (∀ s ∈ M, s < D.1.length) := by rw [HM.out]; exact rnd_all (dn D) (P := (· < D.1.length)) (by omega) (fun s hs => ⟨dn_ltG HD.out hs (by omega), dn_ltG HD.out hs (by omega), dn_ltG HD.out hs (by omega)⟩) k
    by_cases hlt : k < M.length
    · obtain ⟨n', hn'⟩ : ∃ n', M.length - k = n' + 1 := ⟨M.length - k - 1, by omega⟩
      have hq' := hq
      rw [hn', qc_cut hlt] at hq'
      obtain ⟨g, off, cap, rfl, hnc, hcap, d0, _, _⟩ := hq'.front
      rw [hn'] at hq
      clear hq'
      obtain ⟨s, hsk⟩ : ∃ s, s = M[k] := ⟨_, rfl⟩
      rw [← hsk] at d0
      have hsn : s < D.1.length := HP.out s (by rw [hsk]; exact List.getElem_mem _)
      have hsI : (s : Int) < (D.1.length : Int) := by omega
      obtain ⟨be, oe, e1, d1⟩ := (H.out.stay (kpB hb)).markG HD.out hsn
      cases e1
      have hs2I : (s : Int) < (D.2.length : Int) := by rw [Hdl.out]; omega
      have hs2n : s < D.2.length := by rw [Hdl.out]; omega
      obtain ⟨c0, c1, _, _⟩ := blk2 (blkBel hb K0.out)
      have d2 := hr.out.cell (i := s) (by rw [ml_len]; exact hsn)
      rw [ml_get _ hsn, show wl (dn D) M s = wS (fk (dn D) 0 s) from if_pos (by rw [hsk]; exact List.getElem_mem _)] at d2
      obtain ⟨y, hy⟩ : ∃ y, y = de D s := ⟨_, rfl⟩
      rw [← hy] at d1
      have Hsk := Lib.hid hsk
      have Hn' := Lib.hid hn'
      clear hsk hn'
      have hnI : (0 : Int) < ((n' + 1 : Nat) : Int) := by omega
      cases y
      · obtain ⟨bn, on, br, or_, cr, e1, hs1', _, hs2'⟩ := H.out.rowG HD.out hsn
        cases e1
        have hs1 := kpB (S := fun _ => True) hb _ _ trivial hs1'
        have Hrow := Lib.hid hs2'
        have Hy := Lib.hid hy
        clear hs1' hs2' hy d2
        go_wp2_with fail
        clear d0 d1 c0 c1 hs1
        go_loopw [44, 6] (fun i v6 wr => ∃ (c : Nat) (V : List Nat), c ≤ 3 ∧ i = .int .i64 c ∧ Hid (V = visN (dn D) M s c) ∧ QS B3 wr v6 (V.length - k) (qc (V.drop k)) ∧ B3 ≤ wr.heap.size ∧ Below W.heap.size W wr ∧
          Hid (RowS wr B1 (ml D.1.length (wl (dn D) V))) ∧ Hid (RowB wr B2 (ml D.1.length (sn V)))) (fun i _ _ => 3 - (intOf i).toNat)
        case atStart => exact ⟨0, M, by omega, rfl, rfl, by rw [Hn'.out]; exact hq, hz, hb, hr, hs⟩
        case round =>
          clear hq hz hb hr hs
          obtain ⟨c, V, hc, rfl, HV, hq, hz, hb, hr, hs⟩ := hrel
          have hpre : Hid (M <+: V) := by rw [HV.out]; exact visN_pre _ _ _ (Nat.zero_le c)
          have hVk : k < V.length := Nat.lt_of_lt_of_le hlt hpre.out.length_le
          have HPV : Hid (∀ x ∈ V, x < D.1.length) := by rw [HV.out]; exact visN_all _ HP.out (fun c hc => dn_ltG HD.out hsn hc) hc
          have hVn : V.length ≤ D.1.length := nodup_le (by rw [HV.out, HM.out]; exact visN_nodup _ _ (rnd_nodup _ _ _) _) HPV.out
          have hVs : Hid (∀ j (h : j < M.length), V[j]'(Nat.lt_of_lt_of_le h hpre.out.length_le) = M[j]) := fun j h => by
            obtain ⟨r, hr⟩ := hpre.out
            simp only [← hr]
            rw [List.getElem_append_left h]
          obtain ⟨qa, qcap, rfl, hqn⟩ := hq.shape
          by_cases hc3 : c < 3
          · have htn := dn_ltG HD.out hsn hc3
            have d0 := kpB (S := fun _ => True) hb _ _ trivial (Hrow.out c hc3)
            have d1 := hs.out.cell (i := dn D s c) (by rw [ml_len]; exact htn)
            rw [ml_get _ htn] at d1
            have hcI : (c : Int) < 3 := by omega
            obtain ⟨x, hx⟩ : ∃ x, x = sn V (dn D s c) := ⟨_, rfl⟩
            rw [← hx] at d1
            cases x
            · have hnew : Hid (dn D s c ∉ V) := by intro hm; unfold sn at hx; simp [hm] at hx
              have d2 := hr.out.cell (i := s) (by rw [ml_len]; exact hsn)
              have hsV : s ∈ V := hpre.out.subset (by rw [Hsk.out]; exact List.getElem_mem _)
              rw [ml_get _ hsn, show wl (dn D) V s = wS (fk (dn D) 0 s) from if_pos hsV] at d2
              have hfk : Hid (wS (fk (dn D) 0 (dn D s c)) = wS (fk (dn D) 0 s) ++ lt c) := by
                have := fk_new (dn D) 0 (k := k) (c := c) (by rw [← HM.out]; exact hlt) hc3 (by
                  have e1 := HM.out; have e2 := HV.out; have e3 := Hsk.out
                  subst e1
                  rw [← e3, ← e2]; exact hnew.out)
                have e1 := HM.out; have e3 := Hsk.out
                subst e1
                rw [← e3] at this
                exact this
              have HV2 : Hid (V ++ [dn D s c] = visN (dn D) M s (c + 1)) := by
                show _ = vis (visN (dn D) M s c) (dn D s c)
                rw [← HV.out, vis_new hnew.out]
              have hs2 := Lib.hid (hs.out.set (dn D s c) true)
              rw [ml_set (g := sn (V ++ [dn D s c])) (sn_add hnew.out)] at hs2
              have hr3 : Hid ((ml D.1.length (wl (dn D) V)).set (dn D s c) (wS (fk (dn D) 0 s) ++ lt c) = ml D.1.length (wl (dn D) (V ++ [dn D s c]))) := by
                rw [← hfk.out]; exact ml_set (wl_add hnew.out)
              have hqa := qc_add V (dn D s c) k (by omega)
              have hVl : (V ++ [dn D s c]).length - k = V.length - k + 1 := by rw [List.length_append, List.length_singleton]; omega
              obtain ⟨t, ht⟩ : ∃ t, t = dn D s c := ⟨_, rfl⟩
              rw [← ht] at d0 d1 htn HV2 hs2 hr3 hqa hVl
              have hxs : (wS (fk (dn D) 0 s)).size ≤ 2000 := by
                have := fk_size (dn D) 0 k s (by rw [← HM.out, Hsk.out]; exact List.getElem_mem _)
                rw [← HM.out] at this
                omega
              have hls : (lt c).size ≤ 1 := Nat.le_refl _
              obtain ⟨x, hxx⟩ : ∃ x, x = wS (fk (dn D) 0 s) := ⟨_, rfl⟩
              rw [← hxx] at d2 hr3 hxs
              have hcc : ¬ (9223372036854775807 < x.size + (lt c).size) := by omega
              have htI : (t : Int) < (D.1.length : Int) := by omega
              have hB12 : B1 ≠ B2 := by omega
              have f1 := hs.out.fz t
              have Hqa := Lib.hid hqa
              have HVl := Lib.hid hVl
              obtain ⟨old, hold⟩ : ∃ u, wr.cell? ⟨B1, t, none⟩ = some u := by
                obtain ⟨u, hu⟩ : ∃ u, u = (ml D.1.length (wl (dn D) V))[t]'(by rw [ml_len]; exact htn) := ⟨_, rfl⟩
                exact ⟨_, hr.out.cell (i := t) (by rw [ml_len]; exact htn)⟩
              have f2 := hr.out.fz t
              obtain ⟨w5, hw5⟩ : ∃ w5, w5 = wr.setCell ⟨B2, t, none⟩ (.bool true) := ⟨_, rfl⟩
              have d3 : w5.cell? ⟨B1, s, none⟩ = some (.string x) := by rw [hw5]; exact kpSet (b := B2) _ _ hB12 d2
              have d4 : w5.cell? ⟨B1, t, none⟩ = some old := by rw [hw5]; exact kpSet (b := B2) _ _ hB12 hold
              have f4 : w5.frozen? ⟨B1, t, none⟩ = false := by rw [hw5, frozen_set]; exact f2
              have hr5 : Hid (RowS w5 B1 (ml D.1.length (wl (dn D) V))) := by rw [hw5]; exact hr.out.far hB12 _
              have hs5 : Hid (RowB w5 B2 (ml D.1.length (sn (V ++ [t])))) := by rw [hw5]; exact hs2.out
              have hq5 : QS B3 w5 (.slice qa (V.length - k) qcap) (V.length - k) (qc (V.drop k)) := by rw [hw5]; exact hq.far (by omega) _
              have hb5 : Below W.heap.size W w5 := by rw [hw5]; exact hb.setCell hWB2 _
              have hz5 : B3 ≤ w5.heap.size := by rw [hw5]; simp [World.setCell]; exact hz
              have Hw5 := Lib.hid hw5
              clear ht hxx hx hnew hfk hqa hVl hw5 hr hs hq hb hz hs2 hold d2 f2
              go_wp2_with fail
              rw [← Hw5.out]
              refine wp_region_still_tail 10 (by kernel_rfl) (by kernel_rfl) ?_
              simp only [List.take_succ_cons, List.take_zero, List.drop_succ_cons, List.drop_zero]
              repeat still_step
              still_call (letterText_c c _ hc3)
              repeat still_step
              refine wpStill_nil ?_
              change wpList _ _ _ _ _ w5.drew
              have hr6 : RowS w5.drew B1 _ := hr5.out
              have hs6 : Hid (RowB w5.drew B2 (ml D.1.length (sn (V ++ [t])))) := hs5.out
              have hq6 : QS B3 w5.drew (.slice qa (V.length - k) qcap) (V.length - k) (qc (V.drop k)) := hq5.stay (Nat.le_refl _) (fun _ _ _ => rfl)
              have hb6 : Below W.heap.size W w5.drew := hb5.drew
              have hz6 : B3 ≤ w5.drew.heap.size := hz5
              have d6 : w5.drew.cell? ⟨B1, t, none⟩ = some old := d4
              have f6 : w5.drew.frozen? ⟨B1, t, none⟩ = false := f4
              clear hr5 hs5 hq5 hb5 hz5 d3 d4 f4 d0 d1 f1 Hw5 hcc hxs hls
              generalize w5.drew = w6 at *
              obtain ⟨w7, hw7⟩ : ∃ w7, w7 = w6.setCell ⟨B1, t, none⟩ (.string (x ++ lt c)) := ⟨_, rfl⟩
              have hr7 : Hid (RowS w7 B1 (ml D.1.length (wl (dn D) (V ++ [t])))) := by rw [hw7, ← hr3.out]; exact hr6.set t _
              have hs7 : Hid (RowB w7 B2 (ml D.1.length (sn (V ++ [t])))) := by rw [hw7]; exact hs6.out.far (Ne.symm hB12) _
              have hq7 : QS B3 w7 (.slice qa (V.length - k) qcap) (V.length - k) (qc (V.drop k)) := by rw [hw7]; exact hq6.far (by omega) _
              have hb7 : Below W.heap.size W w7 := by rw [hw7]; exact hb6.setCell hWB1 _
              have hsz7 : w7.heap.size = w6.heap.size := by rw [hw7]; simp [World.setCell]
              have Hz7 := Lib.hid hsz7
              have hz7 : B3 ≤ w7.heap.size := by rw [hsz7]; exact hz6
              have Hw7 := Lib.hid hw7
              have hwb3 : W.heap.size ≤ B3 := by omega
              clear hr6 hs6 hq6 hb6 hz6 hsz7 hw7 hr3
              go_wp2_with (
                rw [← Hw7.out]
                at_builtin
                refine appQ elInt (by decide) rfl (.tmp 67) (.tmp 69) rfl B3 _ _ _ (.int .i64 t) w7 rfl (by rw [Hz7.out]; rfl) hq7 rfl (by omega) hz7 ?_
                intro v8 w8 hq8 hz8 hb8)
              go_roundw
              case rel => exact ⟨c + 1, V ++ [t], by omega, by go_num, HV2, by rw [HVl.out, Hqa.out]; exact hq8, by omega, hb7.trans (hb8.mono hwb3), (hb8.block B1 (by omega)).trans hr7.out, (hb8.block B2 (by omega)).trans hs7.out⟩
              case measure => simp [intOf]; omega
            · have hold : Hid (V = visN (dn D) M s (c + 1)) := by
                show _ = vis (visN (dn D) M s c) (dn D s c)
                rw [← HV.out, vis_old (by unfold sn at hx; simpa using hx.symm)]
              generalize dn D s c = t at *
              have htI : (t : Int) < (D.1.length : Int) := by omega
              clear hx
              go_wp2
              go_roundw
              case rel => exact ⟨c + 1, V, by omega, by go_num, hold, hq, hz, hb, hr, hs⟩
              case measure => simp [intOf]; omega
          · obtain rfl : c = 3 := by omega
            have hV1 : Hid (V = rnd (dn D) 0 (k + 1)) := by
              have e1 := HM.out; have e2 := HV.out; have e3 := Hsk.out
              subst e1
              rw [e2, e3, visN_three, rnd_succ_some _ hlt]
              exact Lib.hid rfl
            have hno1 : Hid (∀ j (h : j < V.length), j < k + 1 → de D V[j] = false) := fun j h hjk => by
              rw [hVs.out j (by omega)]
              rcases Nat.lt_succ_iff_lt_or_eq.1 hjk with h1 | h1
              · exact hno.out j (by omega) h1
              · subst h1; rw [← Hsk.out]; exact Hy.out.symm
            obtain ⟨n2, hn2⟩ : ∃ n2, V.length - k = n2 + 1 := ⟨V.length - k - 1, by omega⟩
            rw [hn2, qc_cut hVk] at hq
            obtain ⟨g2, off2, cap2, e2, hnc2, hcap2, _, hqa, hqb⟩ := hq.front
            have hVn2 : V.length - (k + 1) = n2 := by omega
            have HVn2 := Lib.hid hVn2
            injection e2 with e2 e3 e4
            subst e2 e4
            rw [hn2]
            clear hn2 e3 hq hVn2
            by_cases hcz : cap2 = 0
            · have Hq := Lib.hid (hqa hcz)
              obtain rfl : n2 = 0 := by omega
              subst hcz
              clear hqa hqb
              go_wp2
              go_roundg (gk - 1)
              case measure => omega
              case rel => exact ⟨k + 1, V, by omega, by omega, hV1, by rw [HVn2.out]; exact Hq.out, hz, hb, hr, hs, hno1⟩
            · have Hq := Lib.hid (hqb (by omega))
              clear hqa hqb
              go_wp2
              go_roundg (gk - 1)
              case measure => omega
              case rel => exact ⟨k + 1, V, by omega, by omega, hV1, by rw [HVn2.out]; exact Hq.out, hz, hb, hr, hs, hno1⟩
      · have hfin : Hid (hasW (lgD D) ∧ fstW (lgD D) = wS (fk (dn D) 0 s)) := by
          have e := HM.out
          subst e
          have := fst_yes (dn D) (de D) 0 hlt (fun j hj hjk => hno.out j hj hjk) (by rw [← Hsk.out]; exact hy.symm)
          rw [← Hsk.out] at this
          exact this
        have hB := Hb0.out.trans (hb.mono Hb0.out.size)
        clear hq hr hs hno hb hy
        go_wp2
        go_ret2
        rw [hfin.out.2, show fwB (lgD D) = true from pb_true hfin.out.1]
        exact ⟨rfl, hB⟩
    · obtain ⟨ao, cap, rfl, _⟩ := hq.shape
      have hk0 : M.length - k = 0 := by omega
      rw [hk0] at hq ⊢
      have hfin : Hid (¬ hasW (lgD D)) := by
        have := fst_no (dn D) (de D) 0 (k := k) (by rw [← HM.out]; omega) (fun j hj => by
          have e := HM.out
          subst e
          exact hno.out j hj (by omega))
        exact this
      have hB := Hb0.out.trans (hb.mono Hb0.out.size)
      clear hq hr hs hno hb
      go_wp2
      go_ret2
      rw [fstW_no hfin.out, show fwB (lgD D) = false from pb_false hfin.out]
      exact ⟨rfl, hB⟩
end Go.Proofs.Ythdbgpdidolmaaa
