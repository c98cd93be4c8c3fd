/- The order of exploring: the reference's. -/
import Derived.Test.YtofamhgkiipagaaMim
namespace Go.Proofs.Ytofamhgkiipagaa
open Go.RowKit
set_option maxRecDepth 100000
variable {S T : Nat → Prop}
set_option maxHeartbeats 400000 in
theorem l7Name_c (v : Value) (xs : List Int) (x : Int) (k : Nat) (w : World) (h : Ints S w v xs) (hk : k < xs.length) (hx : xs[k] = x) (hm : ∀ j (hj : j < k), xs[j] ≠ x) :
    Calls Try.prog 102 #[v, .int .i64 x] w (fun e w' => e = .returned (.int .i64 k) ∧ w' = w) := by
  obtain ⟨a, cap, rfl, hn⟩ := h.shape
  have H := Lib.hid h; clear h
  have HX := Lib.hid hx; clear hx
  have HM := Lib.hid hm; clear hm
  go_enter Try.func102, Try.ntmps102
  go_wp2
  go_loop [5] (fun i => ∃ j : Nat, j ≤ k ∧ i = .int .i64 j) (fun i => xs.length - (intOf i).toNat)
  case atStart => exact ⟨0, by omega, rfl⟩
  case round =>
    obtain ⟨j, hj, rfl⟩ := hrel
    obtain ⟨b, off, rfl, hc⟩ := H.out.at (k := j) (by omega)
    have hjI : (j : Int) < (xs.length : Int) := by omega
    rcases Nat.lt_or_ge j k with hlt | hge
    · have hne : (xs[j]'(by omega) == x) = false := by
        have := HM.out j hlt
        simpa using this
      have hjl : j < xs.length := by omega
      generalize xs[j]'(by omega) = y at *
      go_wp2
      go_round
      case rel => exact ⟨j + 1, by omega, by go_num⟩
      case measure => simp [intOf]; omega
    · obtain rfl : j = k := by omega
      have he : (xs[j]'(by omega) == x) = true := by rw [HX.out]; simp
      have hjl : j < xs.length := by omega
      generalize xs[j]'(by omega) = y at *
      go_wp2
      go_ret
      exact ⟨rfl, rfl⟩
/-- Which states are met. -/
def sn (n : Nat) (M : List Nat) : List Bool := (List.range n).map fun s => decide (s ∈ M)
theorem sn_len (n : Nat) (M : List Nat) : (sn n M).length = n := by simp [sn]
theorem sn_get {n : Nat} {M : List Nat} {t : Nat} (h : t < n) : (sn n M)[t]'(by rw [sn_len]; exact h) = decide (t ∈ M) := by simp [sn]
theorem sn_set (n : Nat) (M : List Nat) (t : Nat) : (sn n M).set t true = sn n (M ++ [t]) := by
  apply List.ext_getElem
  · simp [sn]
  · intro i h1 h2
    rw [List.getElem_set]
    simp only [sn, List.getElem_map, List.getElem_range, List.mem_append, List.mem_singleton]
    by_cases e : t = i
    · subst e; simp
    · rw [if_neg e]
      have : ¬ i = t := fun h => e h.symm
      simp [this]
theorem sn_nil (n : Nat) : sn n [] = List.replicate n false := by
  apply List.ext_getElem <;> simp [sn]
set_option maxHeartbeats 4000000 in
theorem l7Order_c (vn ve : Value) (D : DfaD) (w : World) (h : DfaR S w vn ve D) (hD : okD D) :
    Calls Try.prog 120 #[.agg #[vn, ve]] w (RVn w fun v w' => ∃ k, (rnd (dn D) 0 k).length = k ∧ k ≤ D.1.length ∧ w'.ownsRow w.heap.size 3 1 v k ((rnd (dn D) 0 k).map fun s : Nat => .int .i64 s)) := by
  obtain ⟨a, c, b, d, rfl, rfl, hn, hm⟩ := (h).shapes
  obtain ⟨W, hW⟩ : ∃ W, W = w.alloc (.cells #[.slice a D.1.length c, .slice b D.2.length d] 42) := ⟨_, rfl⟩
  have Hb0 : Hid (Below w.heap.size w W) := by rw [hW]; exact (Below.refl _ _).alloc (Nat.le_refl _) _
  have c0 : W.cell? ⟨w.heap.size, 0, none⟩ = some (.slice a D.1.length c) := by rw [hW, World.cell?_alloc_mark]; rfl
  have c1 : W.cell? ⟨w.heap.size, 1, none⟩ = some (.slice b D.2.length d) := by rw [hW, World.cell?_alloc_mark]; rfl
  have K0 : Hid (W.heap[w.heap.size]? = some (.cells #[.slice a D.1.length c, .slice b D.2.length d] 42 (0, 0))) := by rw [hW]; exact blkNew _ _ rfl
  have Hz : Hid (W.heap.size = w.heap.size + 1) := by rw [hW]; simp [Hid]
  have H := Lib.hid ((h).stay (kpB Hb0.out)); clear h
  have HW := Lib.hid hW; clear hW
  have HD := Lib.hid hD
  have hn40 : D.1.length ≤ 40 := hD.1.2
  have hn1 : 1 ≤ D.1.length := hD.1.1
  clear hD
  rw [HW.out] at c0 c1
  go_enter Try.func120, Try.ntmps120
  go_wp2_with (
    (at_make; refine makeRow ezBool (by decide) rfl (.tmp 11) (.tmp 11) rfl D.1.length _ rfl rfl (by omega) ?_)
    rw [← HW.out]
    intro w1 hr1 hb1 hz1
    have hcc := hr1.out.cell (i := 0) (by simp; omega)
    obtain ⟨u, hu⟩ : ∃ u, w1.cell? ⟨(W.alloc (.cells #[.int .i64 0] 3)).heap.size, 0, none⟩ = some u := ⟨_, hcc⟩
    have hfz := hr1.out.fz 0
    rw [World.size_alloc] at hu hfz
    have hn0 : 0 < D.1.length := by omega)
  clear c0 c1 hcc hu hfz
  have hr2 := hr1.out.set 0 true
  rw [World.size_alloc] at hr2
  rw [← sn_nil, sn_set] at hr2
  have ho1 : (W.alloc (.cells #[.int .i64 0] 3)).ownsRow W.heap.size 3 1 (.slice (some ⟨W.heap.size, 0, none⟩) 1 1) 1 [.int .i64 0] := ownLit [.int .i64 0] (Nat.le_refl _) (by omega) rfl
  have hbW : Below W.heap.size W (W.alloc (.cells #[.int .i64 0] 3)) := (Below.refl _ _).alloc (Nat.le_refl _) _
  have hbw := (hbW.trans (hb1.mono hbW.size)).setCell (p := ⟨W.heap.size + 1, 0, none⟩) (by simp) (.bool true)
  have ho3 := Lib.hid ((ownStay ho1 hb1).kept (grownSet w1 (W.heap.size + 1) 0 (.bool true)) (.inr (by simp [Value.ownBlock])))
  have hr3 : Hid (RowB (w1.setCell ⟨W.heap.size + 1, 0, none⟩ (.bool true)) (W.heap.size + 1) (sn D.1.length [0])) := hr2
  rw [← Hz.out]
  clear ho1 hbW hr2 hr1 hb1 hz1
  generalize w1.setCell ⟨W.heap.size + 1, 0, none⟩ (.bool true) = w2 at *
  obtain ⟨G, hG⟩ : ∃ G, G = W.heap.size + 1 := ⟨_, rfl⟩
  have hGW : W.heap.size ≤ G := by omega
  rw [← hG] at hr3 ⊢
  clear hG
  go_loopw [3, 5] (fun m i wr => ∃ k : Nat, k ≤ (rnd (dn D) 0 k).length ∧ i = .int .i64 k ∧ Below W.heap.size W wr ∧ Hid (wr.ownsRow W.heap.size 3 1 m (rnd (dn D) 0 k).length ((rnd (dn D) 0 k).map fun s : Nat => .int .i64 s)) ∧ Hid (RowB wr G (sn D.1.length (rnd (dn D) 0 k)))) (fun _ i _ => D.1.length - (intOf i).toNat)
  case atStart => exact ⟨0, by simp, rfl, hbw, ho3, hr3⟩
  case round =>
    clear hbw ho3 hr3
    obtain ⟨k, hk, rfl, hb, ho, hr⟩ := hrel
    have hle := rnd_len_le (nx := dn D) (s0 := 0) (n := D.1.length) (by omega) (dn_lt3 HD.out) k
    have HPM := Lib.hid (rnd_all (dn D) (P := (· < D.1.length)) (s0 := 0) (by omega) (dn_lt3 HD.out) k)
    obtain ⟨am, capm, rfl, _⟩ := (ownFl ho.out).shape
    by_cases hlt : k < (rnd (dn D) 0 k).length
    · have Hsucc := Lib.hid (rnd_succ_some (dn D) hlt)
      obtain ⟨s, hs⟩ : ∃ s, s = (rnd (dn D) 0 k)[k] := ⟨_, rfl⟩
      have Hs := Lib.hid (show (rnd (dn D) 0 k)[k]? = some s by rw [hs]; exact List.getElem?_eq_getElem hlt)
      have hsn : s < D.1.length := by rw [hs]; exact HPM.out _ (List.getElem_mem _)
      rw [← hs] at Hsucc
      clear hs
      obtain ⟨M, hM⟩ : ∃ M, M = rnd (dn D) 0 k := ⟨_, rfl⟩
      have HM := Lib.hid hM
      rw [← hM] at hlt hle ho hr HPM Hsucc Hs ⊢
      clear hM hk
      go_wp2_with fail
      go_loopw [3, 6] (fun m i wr => ∃ c : Nat, c ≤ 3 ∧ i = .int .i64 c ∧ Below W.heap.size W wr ∧ Hid (wr.ownsRow W.heap.size 3 1 m (visN (dn D) M s c).length ((visN (dn D) M s c).map fun s : Nat => .int .i64 s)) ∧ Hid (RowB wr G (sn D.1.length (visN (dn D) M s c)))) (fun _ i _ => 3 - (intOf i).toNat)
      case atStart => exact ⟨0, by omega, rfl, hb, ho, hr⟩
      case round =>
        clear hb ho hr
        obtain ⟨c, hc, rfl, hb, ho, hr⟩ := hrel
        have Hpre : Hid (M <+: visN (dn D) M s c) := visN_pre (dn D) M s (Nat.zero_le c)
        have hlen : M.length ≤ (visN (dn D) M s c).length := Hpre.out.length_le
        obtain ⟨am2, capm2, rfl, hml⟩ := (ownFl ho.out).shape
        have Hsuc : Hid (visN (dn D) M s (c + 1) = vis (visN (dn D) M s c) (dn D s c)) := rfl
        by_cases hc3 : c < 3
        · have hl40 : Hid ((visN (dn D) M s c).length ≤ D.1.length) := by
            have := (visN_pre (dn D) M s (show c ≤ 3 by omega)).length_le
            rw [visN_three, ← Hsucc.out] at this
            exact Nat.le_trans this (rnd_len_le (nx := dn D) (s0 := 0) (n := D.1.length) (by omega) (dn_lt3 HD.out) (k + 1))
          obtain ⟨M2, hM2⟩ : ∃ M2, M2 = visN (dn D) M s c := ⟨_, rfl⟩
          rw [← hM2] at ho hr Hpre hlen hml Hsuc hl40 ⊢
          clear hM2
          obtain ⟨bn, on, br, or_, cr, e1, hs1, hs2, hs3⟩ := (H.out.stay (kpB hb)).step HD.out hsn hc3
          obtain ⟨c0, c1, _, _⟩ := blk2 (blkBel hb K0.out)
          cases e1
          have hkM2 : k < M2.length := by omega
          have hst : M2[k]? = some s := by
            obtain ⟨r, hr⟩ := Hpre.out
            rw [← hr, List.getElem?_append_left hlt]; exact Hs.out
          rw [List.getElem?_eq_getElem hkM2] at hst
          injection hst with hst
          obtain ⟨bm, om, rfl, hcell⟩ := Fl.at (ownFl ho.out).fl (i := k) (by simp; omega)
          rw [List.getElem_map, hst] at hcell
          clear hst
          have hkI : (k : Int) < (M2.length : Int) := by omega
          have hsI : (s : Int) < (D.1.length : Int) := by omega
          have hcI : (c : Int) < 3 := by omega
          obtain ⟨t, ht⟩ : ∃ t, t = dn D s c := ⟨_, rfl⟩
          rw [← ht] at hs2 hs3 Hsuc
          clear ht
          have htI : (t : Int) < (D.1.length : Int) := by omega
          have hcc := hr.out.cell (i := t) (by rw [sn_len]; exact hs3)
          rw [sn_get hs3] at hcc
          have hfz := hr.out.fz t
          by_cases hmem : t ∈ M2
          · have hd : decide (t ∈ M2) = true := decide_eq_true hmem
            rw [hd] at hcc
            have Hv : Hid (vis M2 t = M2) := vis_old hmem
            clear hd hmem
            go_wp2_with fail
            go_quiet (fail)
            go_wp2
            go_roundw
            case rel => exact ⟨c + 1, by omega, by go_num, belDrewN hb _, by rw [Hsuc.out, Hv.out]; exact ho, by rw [Hsuc.out, Hv.out]; exact hr⟩
            case measure => simp [intOf]; omega
          · have hd : decide (t ∈ M2) = false := decide_eq_false hmem
            rw [hd] at hcc
            have Hv : Hid (vis M2 t = M2 ++ [t]) := vis_new hmem
            clear hd hmem
            go_wp2_with fail
            go_quiet (fail)
            have hb2 : Below W.heap.size W (wr.drewN nq) := belDrewN hb _
            have ho2 : Hid ((wr.drewN nq).ownsRow _ _ _ _ _ _) := ho.out
            have hr2 : Hid (RowB (wr.drewN nq) G (sn D.1.length M2)) := hr.out
            have hcc2 : (wr.drewN nq).cell? ⟨G, t, none⟩ = some (.bool false) := hcc
            have hfz2 : (wr.drewN nq).frozen? ⟨G, t, none⟩ = false := hfz
            clear hb ho hr hcc hfz hcell hs1 hs2 c0 c1
            generalize wr.drewN nq = w5 at *
            have hb3 := hb2.setCell (p := ⟨G, t, none⟩) hGW (.bool true)
            have ho3 := Lib.hid (ho2.out.kept (grownSet w5 G t (.bool true)) (.inr (own_cells ho2.out hr2.out (by decide)).symm))
            have hr3 := hr2.out.set t true
            rw [sn_set] at hr3
            have Hr3 := Lib.hid hr3
            clear hr3
            obtain ⟨w6, hw6⟩ : ∃ w6, w6 = w5.setCell ⟨G, t, none⟩ (.bool true) := ⟨_, rfl⟩
            rw [← hw6] at hb3 ho3 Hr3
            have HW6 := Lib.hid hw6
            clear hw6 ho2 hr2 hb2
            go_wp2_with (
              rw [← HW6.out]
              refine appAt elInt (by decide) rfl (.tmp 44) (.tmp 46) rfl W.heap.size _ _ _ [.int .i64 ((t : Nat) : Int)] w6 (B := w6.heap.size) rfl rfl (by rw [HW6.out]; simp [World.setCell]; rfl) ho3.out rfl (by simp [Value.oneCell']) (by have := hl40.out; omega) hb3.size ?_
              intro v7 w7 ho7 hg7 hat7)
            have hb8 := hb3.grown hg7 hb3.size (fun b hb => (own_ge ho3.out b hb).1)
            have Hr8 := Lib.hid (Hr3.out.grow hg7 (own_cells ho3.out Hr3.out (by decide)))
            go_roundw
            case rel => exact ⟨c + 1, by omega, by go_num, hb8, by rw [Hsuc.out, Hv.out, List.length_append, List.map_append]; exact ho7.out, by rw [Hsuc.out, Hv.out]; exact Hr8⟩
            case measure => simp [intOf]; omega
        · obtain rfl : c = 3 := by omega
          rw [visN_three, ← Hsucc.out] at ho hr hlen hml ⊢
          have hkk : k < (rnd (dn D) 0 (k + 1)).length := by omega
          clear Hpre Hsuc HM
          go_wp2
          go_roundw
          case rel => exact ⟨k + 1, by omega, by go_num, hb, ho, hr⟩
          case measure => simp [intOf]; omega
    · have hkk : (rnd (dn D) 0 k).length = k := by omega
      rw [hkk] at ho hle ⊢
      have hnk : ¬ ((k : Int) < (k : Int)) := by omega
      have hfin := Lib.hid (ownBase ho.out Hb0.out.size)
      have hB := Hb0.out.trans (hb.mono Hb0.out.size)
      clear ho hr hlt hk
      go_wp2
      go_ret
      exact RVn.mk hB ⟨k, hkk, hle, hfin.out⟩
end Go.Proofs.Ytofamhgkiipagaa
