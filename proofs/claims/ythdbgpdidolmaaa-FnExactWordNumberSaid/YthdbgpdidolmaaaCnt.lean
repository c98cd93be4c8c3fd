/- How many words of a length lead from a state to an end: the reference's list of counts. Valid automata, at most 30 letters. -/
import Derived.Test.YthdbgpdidolmaaaDfv
import Derived.Test.YthdbgpdidolmaaaRow
import Derived.StillTailTactics
namespace Go.Proofs.Ythdbgpdidolmaaa
open Go.RowKit
set_option maxRecDepth 100000
variable {S : Nat → Prop}

/-- How many words of so many letters lead from a state to an end. -/
def cnt (D : DfaD) : Nat → Nat → Nat
  | 0, s => if de D s then 1 else 0
  | l + 1, s => cnt D l (dn D s 0) + cnt D l (dn D s 1) + cnt D l (dn D s 2)
theorem cnt_le (D : DfaD) : ∀ l s, cnt D l s ≤ 3 ^ l
  | 0, s => by unfold cnt; split <;> decide
  | l + 1, s => by
    have h0 := cnt_le D l (dn D s 0)
    have h1 := cnt_le D l (dn D s 1)
    have h2 := cnt_le D l (dn D s 2)
    show cnt D l (dn D s 0) + cnt D l (dn D s 1) + cnt D l (dn D s 2) ≤ 3 ^ (l + 1)
    rw [Nat.pow_succ]; omega
theorem p3_30 {l : Nat} (h : l ≤ 30) : 3 ^ l ≤ 205891132094649 := by
  have : 3 ^ l ≤ 3 ^ 30 := Nat.pow_le_pow_right (by omega) h
  have e : 3 ^ 30 = 205891132094649 := by decide
  omega
theorem cnt_bd (D : DfaD) {l : Nat} (h : l ≤ 30) (s : Nat) : cnt D l s ≤ 205891132094649 := Nat.le_trans (cnt_le D l s) (p3_30 h)
/-- The sum over the first c letters. -/
def cns (D : DfaD) (l s : Nat) : Nat → Nat
  | 0 => 0
  | c + 1 => cns D l s c + cnt D l (dn D s c)
theorem cns_three (D : DfaD) (l s : Nat) : cns D l s 3 = cnt D (l + 1) s := by simp [cns, cnt]
theorem cns_bd (D : DfaD) {l : Nat} (h : l ≤ 30) (s : Nat) : ∀ c, c ≤ 3 → cns D l s c ≤ 205891132094649 * c
  | 0, _ => by simp [cns]
  | c + 1, hc => by
    have := cns_bd D h s c (by omega)
    have := cnt_bd D h (dn D s c)
    show cns D l s c + cnt D l (dn D s c) ≤ _
    omega
/-- The list of counts. -/
def cntL (D : DfaD) (l : Nat) : List Int := (List.range D.1.length).map fun s => ((cnt D l s : Nat) : Int)
theorem cntL_len (D : DfaD) (l : Nat) : (cntL D l).length = D.1.length := by simp [cntL]
theorem cntL_get (D : DfaD) (l : Nat) {s : Nat} (h : s < D.1.length) : (cntL D l)[s]'(by rw [cntL_len]; exact h) = (cnt D l s : Int) := by simp [cntL]
set_option maxHeartbeats 2000000 in
theorem l17Counts_c (vn ve : Value) (D : DfaD) (l : Nat) (w : World) (h : DfaR S w vn ve D) (hD : okD D) (hl : l ≤ 30) :
    Calls Try.prog 72 #[.agg #[vn, ve], .int .i64 l] w (RVn w fun v w' => ∃ g, v = .slice (some ⟨g, 0, none⟩) D.1.length D.1.length ∧ w.heap.size < g ∧ RowI w' g (cntL D l)) := by
  obtain ⟨a, c, b, d, rfl, rfl, hn, hm⟩ := (h).shapes
  obtain ⟨W, hW⟩ : ∃ W, W = w.alloc (.cells #[.slice a D.1.length c, .slice b D.2.length d] 36) := ⟨_, rfl⟩
  have Hb0 : Hid (Below w.heap.size w W) := by rw [hW]; exact (Below.refl _ _).alloc (Nat.le_refl _) _
  have c0 : W.cell? ⟨w.heap.size, 0, none⟩ = some (.slice a D.1.length c) := by rw [hW, World.cell?_alloc_mark]; rfl
  have c1 : W.cell? ⟨w.heap.size, 1, none⟩ = some (.slice b D.2.length d) := by rw [hW, World.cell?_alloc_mark]; rfl
  have K0 : Hid (W.heap[w.heap.size]? = some (.cells #[.slice a D.1.length c, .slice b D.2.length d] 36 (0, 0))) := by rw [hW]; exact blkNew _ _ rfl
  have Hz : Hid (W.heap.size = w.heap.size + 1) := by rw [hW]; simp [Hid]
  have H := Lib.hid ((h).stay (kpB Hb0.out)); clear h
  have HW := Lib.hid hW; clear hW
  have HD := Lib.hid hD
  have Hdl := Lib.hid hD.2.1
  have hn40 : D.1.length ≤ 40 := hD.1.2
  clear hD
  rw [HW.out] at c0 c1
  go_enter Try.func72, Try.ntmps72
  go_wp2_with (at_make; refine makeRow ezInt (by decide) rfl (.tmp 13) (.tmp 13) rfl D.1.length _ rfl rfl (by omega) ?_; rw [← HW.out]; intro w1 hr1 hb1 hz1)
  clear c0 c1
  obtain ⟨B1, hB1⟩ : ∃ B1, B1 = W.heap.size := ⟨_, rfl⟩
  rw [← hB1] at hr1
  rw [← hB1]
  have hWB : W.heap.size ≤ B1 := by rw [hB1]; exact Nat.le_refl _
  clear hB1 hz1
  go_loopw [6] (fun i wr => ∃ k : Nat, k ≤ D.1.length ∧ i = .int .i64 k ∧ Below W.heap.size W wr ∧ Hid (RowI wr B1 (part D.1.length k (fun s => ((cnt D 0 s : Nat) : Int)) 0))) (fun i _ => D.1.length - (intOf i).toNat)
  case atStart => exact ⟨0, by omega, rfl, hb1, by rw [part_zero]; exact hr1⟩
  case round =>
    obtain ⟨k, hk, rfl, hb, hr⟩ := hrel
    have k0 := blkBel hb K0.out
    obtain ⟨c0, c1, _, _⟩ := blk2 k0
    by_cases hlt : k < D.1.length
    · obtain ⟨be, oe, rfl, he⟩ := (H.out.stay (kpB hb)).mark HD.out hlt
      have hlt2 : k < D.2.length := by rw [Hdl.out]; exact hlt
      have hc := hr.out.cell (i := k) (by rw [part_len]; exact hlt)
      rw [part_get hlt, if_neg (Nat.lt_irrefl k)] at hc
      have hfz := hr.out.fz k
      have hF : ((cnt D 0 k : Nat) : Int) = if de D k then 1 else 0 := by unfold cnt; split <;> rfl
      cases hde : de D k
      · rw [hde] at he hF
        simp only [if_false, Bool.false_eq_true] at hF
        have hr2 := Lib.hid hr.out
        rw [← part_keep (fun s => ((cnt D 0 s : Nat) : Int)) 0 hF] at hr2
        clear hF hde hr
        go_wp2
        go_roundw
        case rel => exact ⟨k + 1, by omega, by go_num, hb, hr2⟩
        case measure => simp [intOf]; omega
      · rw [hde] at he hF
        simp only [if_true] at hF
        have hr2 := Lib.hid (hr.out.set k 1)
        have e1 := part_set (fun s => ((cnt D 0 s : Nat) : Int)) 0 hlt
        simp only [hF] at e1
        rw [e1] at hr2
        have hB2 : Below W.heap.size W (wr.setCell ⟨B1, k, none⟩ (.int .i64 1)) := hb.setCell hWB _
        clear hF hde hr hb e1
        go_wp2
        go_roundw
        case rel => exact ⟨k + 1, by omega, by go_num, hB2, hr2⟩
        case measure => simp [intOf]; omega
    · obtain rfl : k = D.1.length := by omega
      have hr2 : Hid (RowI wr B1 (cntL D 0)) := by have := hr.out; rw [part_all] at this; exact this
      clear hr c0 c1 k0
      go_wp2
      go_loopw [5, 7] (fun v i wr => ∃ (j g : Nat), j ≤ l ∧ i = .int .i64 j ∧ v = .slice (some ⟨g, 0, none⟩) D.1.length D.1.length ∧ W.heap.size ≤ g ∧ Below W.heap.size W wr ∧ Hid (RowI wr g (cntL D j))) (fun _ i _ => l - (intOf i).toNat)
      case atStart => exact ⟨0, B1, by omega, rfl, rfl, hWB, hb, hr2⟩
      case round =>
        clear hb hr2
        obtain ⟨j, g, hj, rfl, rfl, hg, hb, hr⟩ := hrel
        by_cases hjl : j < l
        · have hgl := hr.out.lt
          go_wp2_with (at_make; refine makeRow ezInt (by decide) rfl (.tmp 35) (.tmp 35) rfl D.1.length _ rfl rfl (by omega) ?_; intro w3 hr3 hb3 hz3)
          have hb4 := hb.trans (hb3.mono hb.size)
          have hr4 := Lib.hid (hr.out.stay hb3)
          obtain ⟨g2, hg2⟩ : ∃ g2, g2 = wr.heap.size := ⟨_, rfl⟩
          rw [← hg2] at hr3 hgl
          rw [← hg2]
          have hgg : g ≠ g2 := by omega
          have hWg2 : W.heap.size ≤ g2 := by rw [hg2]; exact hb.size
          clear hg2 hz3 hb3 hb hr
          go_loopw [9] (fun i wr => ∃ k : Nat, k ≤ D.1.length ∧ i = .int .i64 k ∧ Below W.heap.size W wr ∧ Hid (RowI wr g (cntL D j)) ∧ Hid (RowI wr g2 (part D.1.length k (fun s => ((cnt D (j + 1) s : Nat) : Int)) 0))) (fun i _ => D.1.length - (intOf i).toNat)
          case atStart => exact ⟨0, by omega, rfl, hb4, hr4, by rw [part_zero]; exact hr3⟩
          case round =>
            clear hr3 hr4 hb4
            obtain ⟨k, hk, rfl, hb, hr, hq⟩ := hrel
            by_cases hkl : k < D.1.length
            · go_wp2_with fail
              go_loopw [10] (fun i wr => ∃ c : Nat, c ≤ 3 ∧ i = .int .i64 c ∧ Below W.heap.size W wr ∧ Hid (RowI wr g (cntL D j)) ∧ Hid (RowI wr g2 ((part D.1.length k (fun s => ((cnt D (j + 1) s : Nat) : Int)) 0).set k ((cns D j k c : Nat) : Int)))) (fun i _ => 3 - (intOf i).toNat)
              case atStart => exact ⟨0, by omega, rfl, hb, hr, by
                have e : (part D.1.length k (fun s => ((cnt D (j + 1) s : Nat) : Int)) 0).set k ((cns D j k 0 : Nat) : Int) = part D.1.length k (fun s => ((cnt D (j + 1) s : Nat) : Int)) 0 := by
                  apply List.ext_getElem
                  · simp
                  · intro i h1 h2
                    rw [List.getElem_set]
                    split
                    · rename_i e; subst e; rw [part_get hkl, if_neg (Nat.lt_irrefl _)]; rfl
                    · rfl
                rw [e]; exact hq⟩
              case round =>
                clear hb hr hq
                obtain ⟨t, ht, rfl, hb, hr, hq⟩ := hrel
                by_cases htl : t < 3
                · have k0 := blkBel hb K0.out
                  obtain ⟨c0, c1, _, _⟩ := blk2 k0
                  obtain ⟨bn, on, br, or_, cr, e1, hs1, hs2, hs3⟩ := (H.out.stay (kpB hb)).step HD.out hkl htl
                  cases e1
                  have hcg := hr.out.cell (i := dn D k t) (by rw [cntL_len]; exact hs3)
                  rw [cntL_get D j hs3] at hcg
                  have hcq := hq.out.cell (i := k) (by rw [List.length_set, part_len]; exact hkl)
                  rw [List.getElem_set_self] at hcq
                  have hfz := hq.out.fz k
                  have hb1 := cnt_bd D (show j ≤ 30 by omega) (dn D k t)
                  have hb2 := cns_bd D (show j ≤ 30 by omega) k t (by omega)
                  have hns : Hid (cns D j k (t + 1) = cns D j k t + cnt D j (dn D k t)) := rfl
                  obtain ⟨x, hx⟩ : ∃ x, x = cns D j k t := ⟨_, rfl⟩
                  obtain ⟨y, hy⟩ : ∃ y, y = cnt D j (dn D k t) := ⟨_, rfl⟩
                  obtain ⟨z, hz⟩ : ∃ z, z = dn D k t := ⟨_, rfl⟩
                  rw [← hx] at hb2 hns hcq
                  rw [← hy] at hb1 hns hcg
                  rw [← hz] at hcg hs2 hs3
                  clear hx hy hz
                  have htI : (t : Int) < 3 := by omega
                  have hkI : (k : Int) < (D.1.length : Int) := by omega
                  have hzI : (z : Int) < (D.1.length : Int) := by omega
                  have hwx : IntKind.i64.wrap ((x : Int) + (y : Int)) = (x : Int) + (y : Int) := IntWalk.i64_in _ (by omega)
                  go_wp2_with fail
                  go_still_tail 19, (by kernel_rfl)
                  change wpList _ _ _ _ _ wr.drew
                  have hq2 : RowI wr.drew g2 _ := hq.out
                  have hr2 : Hid (RowI wr.drew g (cntL D j)) := hr.out
                  have hb2' : Below W.heap.size W wr.drew := hb.drew
                  have hcq2 : wr.drew.cell? ⟨g2, k, none⟩ = some (.int .i64 (x : Int)) := hcq
                  have hfz2 : wr.drew.frozen? ⟨g2, k, none⟩ = false := hfz
                  clear hq hr hb hcq hfz hcg hs1 hs2 c0 c1 k0
                  generalize wr.drew = w2 at *
                  have hq3 := hq2.set k ((x : Int) + (y : Int))
                  rw [List.set_set] at hq3
                  have Hq3 := Lib.hid hq3; clear hq3 hq2
                  have Hr3 := Lib.hid (hr2.out.far (c := g2) (o := k) hgg (.int .i64 ((x : Int) + (y : Int))))
                  have hB3 : Below W.heap.size W (w2.setCell ⟨g2, k, none⟩ (.int .i64 ((x : Int) + (y : Int)))) := hb2'.setCell hWg2 _
                  clear hr2 hb2'
                  go_wp2
                  go_roundw
                  case rel => exact ⟨t + 1, by omega, by go_num, hB3, Hr3, by rw [hns.out, Int.natCast_add]; exact Hq3⟩
                  case measure => simp [intOf]; omega
                · obtain rfl : t = 3 := by omega
                  have hq2 := Lib.hid hq.out
                  rw [cns_three, part_set (fun s => ((cnt D (j + 1) s : Nat) : Int)) 0 hkl] at hq2
                  clear hq
                  go_wp2
                  go_roundw
                  case rel => exact ⟨k + 1, by omega, by go_num, hb, hr, hq2⟩
                  case measure => simp [intOf]; omega
            · obtain rfl : k = D.1.length := by omega
              have hq2 : Hid (RowI wr g2 (cntL D (j + 1))) := by have := hq.out; rw [part_all] at this; exact this
              clear hq
              go_wp2
              go_roundw
              case rel => exact ⟨j + 1, g2, by omega, by go_num, rfl, hWg2, hb, hq2⟩
              case measure => simp [intOf]; omega
        · obtain rfl : j = l := by omega
          have hB := Hb0.out.trans (hb.mono Hb0.out.size)
          have hgw : w.heap.size < g := by have := Hz.out; omega
          clear hb
          go_wp2
          go_ret
          exact RVn.mk hB ⟨g, rfl, hgw, hr.out⟩
end Go.Proofs.Ythdbgpdidolmaaa
