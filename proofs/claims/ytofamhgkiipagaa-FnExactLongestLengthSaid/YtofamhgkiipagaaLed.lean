/- Leading states: the program's and the reference's. -/
import Derived.Test.YtofamhgkiipagaaLdm
import Derived.Test.YtofamhgkiipagaaBld
import Derived.Test.YtofamhgkiipagaaDfv
import Derived.Laws.OwnMore
import Derived.Deep.LoopGhost
namespace Go.Proofs.Ytofamhgkiipagaa
open Go.RowKit
set_option maxRecDepth 100000
variable {S T : Nat → Prop}
/-- The first n marks. -/
def fB (n : Nat) (o : Nat → Bool) : List Value := (List.range n).map fun s => .bool (o s)
theorem fB_len (n : Nat) (o : Nat → Bool) : (fB n o).length = n := by simp [fB]
theorem fB_get {n s : Nat} (o : Nat → Bool) (h : s < n) : (fB n o)[s]? = some (.bool (o s)) := by simp [fB, h]
theorem fB_set (n : Nat) (o : Nat → Bool) (k : Nat) (b : Bool) : (fB n o).set k (.bool b) = fB n (upd o k b) := by
  apply List.ext_getElem (by simp [fB])
  intro i h1 h2
  have hi : i < n := by rw [fB_len] at h2; exact h2
  by_cases e : k = i
  · subst e
    rw [List.getElem_set_self]
    simp [fB, upd_same]
  · rw [List.getElem_set_ne e]
    simp [fB, upd_ne o b (Ne.symm e)]
theorem fB_congr {n : Nat} {o o' : Nat → Bool} (h : ∀ s, s < n → o s = o' s) : fB n o = fB n o' := by
  unfold fB
  exact List.map_congr_left fun s hs => by rw [h s (List.mem_range.1 hs)]
theorem fB_de {D : DfaD} (hD : okD D) : D.2.map Value.bool = fB D.1.length (de D) := by
  apply List.ext_getElem (by rw [List.length_map, fB_len, hD.2.1])
  intro i h1 h2
  have hi : i < D.1.length := by rw [fB_len] at h2; exact h2
  rw [List.getElem_map, de_cell hD hi]
  simp [fB]
theorem own_fB {w : World} {base g n cap : Nat} {o : Nat → Bool} (ho : w.ownsRow base 4 1 (.slice (some ⟨g, 0, none⟩) n cap) n (fB n o)) {s : Nat} (hs : s < n) :
    w.cell? ⟨g, s, none⟩ = some (.bool (o s)) := by rw [ho.cellAt s (by omega), fB_get o hs]
theorem own_upd {w : World} {base g n cap : Nat} {o : Nat → Bool} (ho : w.ownsRow base 4 1 (.slice (some ⟨g, 0, none⟩) n cap) n (fB n o)) (k : Nat) (b : Bool) :
    (w.setCell ⟨g, k, none⟩ (.bool b)).ownsRow base 4 1 (.slice (some ⟨g, 0, none⟩) n cap) n (fB n (upd o k b)) := by
  have := (ho.stored k (.bool b)).1
  rwa [fB_set] at this
set_option maxHeartbeats 2000000 in
theorem leading_c (vn ve : Value) (D : DfaD) (w : World) (h : DfaR S w vn ve D) (hD : okD D) :
    Calls Try.prog 86 #[.agg #[vn, ve]] w (RVn w fun v w' => w'.ownsRow w.heap.size 4 1 v D.1.length (fB D.1.length (leadB D))) := by
  obtain ⟨a, c, b, d, rfl, rfl, hn, hm⟩ := (h).shapes
  obtain ⟨W, hW⟩ : ∃ W, W = w.alloc (.cells #[.slice a D.1.length c, .slice b D.2.length d] 42) := ⟨_, rfl⟩
  have Hb0 : Hid (Below w.heap.size w W) := by rw [hW]; exact (Below.refl _ _).alloc (Nat.le_refl _) _
  have c0 : W.cell? ⟨w.heap.size, 0, none⟩ = some (.slice a D.1.length c) := by rw [hW, World.cell?_alloc_mark]; rfl
  have c1 : W.cell? ⟨w.heap.size, 1, none⟩ = some (.slice b D.2.length d) := by rw [hW, World.cell?_alloc_mark]; rfl
  have K0 : Hid (W.heap[w.heap.size]? = some (.cells #[.slice a D.1.length c, .slice b D.2.length d] 42 (0, 0))) := by rw [hW]; exact blkNew _ _ rfl
  have Hz : Hid (W.heap.size = w.heap.size + 1) := by rw [hW]; simp [Hid]
  have H := Lib.hid ((h).stay (kpB Hb0.out)); clear h
  have HW := Lib.hid hW; clear hW
  have HD := Lib.hid hD
  have hn40 : D.1.length ≤ 40 := hD.1.2
  have hn1 : 1 ≤ D.1.length := hD.1.1
  have Hdl := Lib.hid hD.2.1
  have Hfd := Lib.hid (fB_de hD)
  clear hD
  obtain ⟨W1, hW1⟩ : ∃ W1, W1 = W.alloc (.cells #[] 4) := ⟨_, rfl⟩
  have hbx : Below W.heap.size W W1 := by rw [hW1]; exact (Below.refl _ _).alloc (Nat.le_refl _) _
  have ho0 : Hid (W1.ownsRow W.heap.size 4 1 (.slice (some ⟨w.heap.size + 1, 0, none⟩) 0 0) 0 []) := by rw [hW1, ← Hz.out]; exact ownLit [] (Nat.le_refl _) (by omega) rfl
  have K1 := Lib.hid (blkBel hbx K0.out)
  have HE := Lib.hid (Fl.stay H.out.2 (kpB hbx))
  have HW1 := Lib.hid hW1
  clear hW1
  rw [HW.out] at c0 c1
  go_enter Try.func86, Try.ntmps86
  go_wp2_with (
    rw [← HW.out, ← HW1.out]
    at_builtin
    refine appMany (S := S) elBool (by decide) rfl (.tmp 8) (.tmp 10) rfl W.heap.size _ _ 0 D.2.length [] (D.2.map .bool) W1 rfl rfl ho0.out HE.out (by simp) (by intro u hu; obtain ⟨b, _, rfl⟩ := List.mem_map.1 hu; rfl) (by have := Hdl.out; omega) hbx.size ?_
    intro v2 w2 ho2 hg2
    have hb2 : Below W.heap.size W w2 := hbx.grown hg2 hbx.size (fun b hb => (own_ge ho0.out b hb).1)
    obtain ⟨d0, d1, _, _⟩ := blk2 (blkBel hb2 K0.out))
  have ho3 : Hid (w2.ownsRow W.heap.size 4 1 v2 D.1.length (fB D.1.length (de D))) := by
    have := ho2.out
    rw [Nat.zero_add, List.nil_append, Hfd.out, Hdl.out] at this
    exact this
  obtain ⟨g, cap, rfl, hg, _, _⟩ := own_some ho3.out (by omega)
  clear ho2 hg2 d0 d1 ho0 HW1 HE K1 Hfd c0 c1 hbx
  go_loopw [15] (fun i wr => ∃ (r : Nat) (o : Nat → Bool), r ≤ D.1.length ∧ i = .int .i64 r ∧ Below W.heap.size W wr ∧ Hid (wr.ownsRow W.heap.size 4 1 (.slice (some ⟨g, 0, none⟩) D.1.length cap) D.1.length (fB D.1.length o)) ∧ Hid (LI D r 0 0 o)) (fun i _ => D.1.length - (intOf i).toNat)
  case atStart => exact ⟨0, de D, by omega, rfl, hb2, ho3, LI_start⟩
  case round =>
    clear hb2 ho3
    obtain ⟨r, o, hr, rfl, hb, ho, hL⟩ := hrel
    by_cases hlr : r < D.1.length
    · obtain ⟨c0, c1, _, _⟩ := blk2 (blkBel hb K0.out)
      go_wp2_with fail
      clear c0 c1
      go_loopw [20] (fun i wr => ∃ (s : Nat) (o : Nat → Bool), s ≤ D.1.length ∧ i = .int .i64 s ∧ Below W.heap.size W wr ∧ Hid (wr.ownsRow W.heap.size 4 1 (.slice (some ⟨g, 0, none⟩) D.1.length cap) D.1.length (fB D.1.length o)) ∧ Hid (LI D r s 0 o)) (fun i _ => D.1.length - (intOf i).toNat)
      case atStart => exact ⟨0, o, by omega, rfl, hb, ho, hL⟩
      case round =>
        clear hb ho hL
        obtain ⟨s, o, hs, rfl, hb, ho, hL⟩ := hrel
        by_cases hls : s < D.1.length
        · obtain ⟨bn, on, br, or_, cr, e1, hs1, _, hs2⟩ := H.out.row HD.out hls
          cases e1
          have Hs2 := Lib.hid hs2
          have hc1 := kpB (S := fun _ => True) hb _ _ trivial hs1
          have hsI : (s : Int) < (D.1.length : Int) := by omega
          clear hs1 hs2
          go_wp2_with fail
          clear hc1
          go_loopw [27] (fun i wr => ∃ (c : Nat) (o : Nat → Bool), c ≤ 3 ∧ i = .int .i64 c ∧ Below W.heap.size W wr ∧ Hid (wr.ownsRow W.heap.size 4 1 (.slice (some ⟨g, 0, none⟩) D.1.length cap) D.1.length (fB D.1.length o)) ∧ Hid (LI D r s c o)) (fun i _ => 3 - (intOf i).toNat)
          case atStart => exact ⟨0, o, by omega, rfl, hb, ho, hL⟩
          case round =>
            clear hb ho hL
            obtain ⟨c, o, hc, rfl, hb, ho, hL⟩ := hrel
            by_cases hc3 : c < 3
            · have htn := dn_lt HD.out hls hc3
              have d0 := kpB (S := fun _ => True) hb _ _ trivial (Hs2.out c hc3)
              have HLs := Lib.hid (LI_step HD.out hls hc3 hL.out)
              have d1 := own_fB ho.out hls
              have d2 := own_fB ho.out htn
              have fz := ho.out.frozenAt s
              obtain ⟨t, ht⟩ : ∃ t, t = dn D s c := ⟨_, rfl⟩
              rw [← ht] at d0 HLs d2 htn
              clear ht
              obtain ⟨x, hx⟩ : ∃ x, x = o s := ⟨_, rfl⟩
              obtain ⟨y, hy⟩ : ∃ y, y = o t := ⟨_, rfl⟩
              rw [← hx] at d1 HLs
              rw [← hy] at d2 HLs
              have Hup := Lib.hid (own_upd ho.out s (x || y))
              have Hbs := fun b : Bool => hb.setCell (p := ⟨g, s, none⟩) hg (.bool b)
              have htI : (t : Int) < (D.1.length : Int) := by omega
              have hcI : (c : Int) < 3 := by omega
              clear hx hy
              cases x
              · rw [Bool.false_or] at HLs Hup
                go_wp2
                go_roundw
                case rel => exact ⟨c + 1, _, by omega, by go_num, Hbs _, Hup, HLs⟩
                case measure => simp [intOf]; omega
              · rw [Bool.true_or] at HLs Hup
                go_wp2
                go_roundw
                case rel => exact ⟨c + 1, _, by omega, by go_num, Hbs _, Hup, HLs⟩
                case measure => simp [intOf]; omega
            · obtain rfl : c = 3 := by omega
              have hLr := Lib.hid (LI_row hls hL.out)
              go_wp2
              go_roundw
              case rel => exact ⟨s + 1, o, by omega, by go_num, hb, ho, hLr⟩
              case measure => simp [intOf]; omega
        · obtain rfl : s = D.1.length := by omega
          have hLr := Lib.hid (LI_round hL.out)
          have hnk : ¬ ((D.1.length : Int) < (D.1.length : Int)) := by omega
          go_wp2
          go_roundw
          case rel => exact ⟨r + 1, o, by omega, by go_num, hb, ho, hLr⟩
          case measure => simp [intOf]; omega
    · obtain rfl : r = D.1.length := by omega
      have hfin := Lib.hid (ownBase ho.out Hb0.out.size)
      have hB := Hb0.out.trans (hb.mono Hb0.out.size)
      have Hcg := Lib.hid (fB_congr (LI_end HD.out hL.out))
      have hnk : ¬ ((D.1.length : Int) < (D.1.length : Int)) := by omega
      go_wp2
      go_ret
      exact RVn.mk hB (by rw [← Hcg.out]; exact hfin.out)
set_option maxHeartbeats 2000000 in
theorem l14Useful_c (vn ve : Value) (D : DfaD) (w : World) (h : DfaR S w vn ve D) (hD : okD D) :
    Calls Try.prog 79 #[.agg #[vn, ve]] w (RVn w fun v w' => w'.ownsRow w.heap.size 4 1 v D.1.length (fB D.1.length (leadB D))) := by
  obtain ⟨a, c, b, d, rfl, rfl, hn, hm⟩ := (h).shapes
  obtain ⟨W, hW⟩ : ∃ W, W = w.alloc (.cells #[.slice a D.1.length c, .slice b D.2.length d] 42) := ⟨_, rfl⟩
  have Hb0 : Hid (Below w.heap.size w W) := by rw [hW]; exact (Below.refl _ _).alloc (Nat.le_refl _) _
  have c0 : W.cell? ⟨w.heap.size, 0, none⟩ = some (.slice a D.1.length c) := by rw [hW, World.cell?_alloc_mark]; rfl
  have c1 : W.cell? ⟨w.heap.size, 1, none⟩ = some (.slice b D.2.length d) := by rw [hW, World.cell?_alloc_mark]; rfl
  have K0 : Hid (W.heap[w.heap.size]? = some (.cells #[.slice a D.1.length c, .slice b D.2.length d] 42 (0, 0))) := by rw [hW]; exact blkNew _ _ rfl
  have Hz : Hid (W.heap.size = w.heap.size + 1) := by rw [hW]; simp [Hid]
  have H := Lib.hid ((h).stay (kpB Hb0.out)); clear h
  have HW := Lib.hid hW; clear hW
  have HD := Lib.hid hD
  have hn40 : D.1.length ≤ 40 := hD.1.2
  have hn1 : 1 ≤ D.1.length := hD.1.1
  have Hdl := Lib.hid hD.2.1
  have Hfd := Lib.hid (fB_de hD)
  clear hD
  obtain ⟨W1, hW1⟩ : ∃ W1, W1 = W.alloc (.cells #[] 4) := ⟨_, rfl⟩
  have hbx : Below W.heap.size W W1 := by rw [hW1]; exact (Below.refl _ _).alloc (Nat.le_refl _) _
  have ho0 : Hid (W1.ownsRow W.heap.size 4 1 (.slice (some ⟨w.heap.size + 1, 0, none⟩) 0 0) 0 []) := by rw [hW1, ← Hz.out]; exact ownLit [] (Nat.le_refl _) (by omega) rfl
  have HE := Lib.hid (Fl.stay H.out.2 (kpB hbx))
  have HW1 := Lib.hid hW1
  clear hW1
  rw [HW.out] at c0 c1
  go_enter Try.func79, Try.ntmps79
  go_wp2_with (
    rw [← HW.out, ← HW1.out]
    at_builtin
    refine appMany (S := S) elBool (by decide) rfl (.tmp 7) (.tmp 9) rfl W.heap.size _ _ 0 D.2.length [] (D.2.map .bool) W1 rfl rfl ho0.out HE.out (by simp) (by intro u hu; obtain ⟨b, _, rfl⟩ := List.mem_map.1 hu; rfl) (by have := Hdl.out; omega) hbx.size ?_
    intro v2 w2 ho2 hg2
    have hb2 : Below W.heap.size W w2 := hbx.grown hg2 hbx.size (fun b hb => (own_ge ho0.out b hb).1))
  have ho3 : Hid (w2.ownsRow W.heap.size 4 1 v2 D.1.length (fB D.1.length (de D))) := by
    have := ho2.out
    rw [Nat.zero_add, List.nil_append, Hfd.out, Hdl.out] at this
    exact this
  obtain ⟨g, cap, rfl, hg, _, _⟩ := own_some ho3.out (by omega)
  clear ho2 hg2 ho0 HW1 HE Hfd c0 c1 hbx
  go_loopg [4] (D.1.length + 1 - cntB D.1.length (de D)) (fun m v4 wr => ∃ (o : Nat → Bool) (bb : Bool), v4 = .bool bb ∧ Below W.heap.size W wr ∧ Hid (wr.ownsRow W.heap.size 4 1 (.slice (some ⟨g, 0, none⟩) D.1.length cap) D.1.length (fB D.1.length o)) ∧ Hid (∀ t, t < D.1.length → o t = true → lead D t) ∧ Hid (∀ t, t < D.1.length → de D t = true → o t = true) ∧
    Hid (bb = true → D.1.length + 1 - cntB D.1.length o ≤ m) ∧ Hid (bb = false → ∀ s, s < D.1.length → o s = leadB D s))
  case atStart => exact ⟨de D, true, rfl, hb2, ho3, fun t _ h => ⟨[], h⟩, fun t _ h => h, fun _ => Nat.le_refl _, nofun⟩
  case round =>
    clear hb2 ho3
    obtain ⟨o0, bb, rfl, hb, ho, Hso, Hde, Hm, Hst⟩ := hrel
    cases bb
    · have hfin := Lib.hid (ownBase ho.out Hb0.out.size)
      have hB := Hb0.out.trans (hb.mono Hb0.out.size)
      have Hcg := Lib.hid (fB_congr (Hst.out rfl))
      go_wp2
      go_ret
      exact RVn.mk hB (by rw [← Hcg.out]; exact hfin.out)
    · have Hmk := Lib.hid (Hm.out rfl)
      have Hci := Lib.hid (cntB_le D.1.length o0)
      have HU0 := Lib.hid (UI_start Hso.out Hde.out)
      clear Hm Hst
      go_wp2_with fail
      go_loopw [4, 5] (fun v4 i wr => ∃ (k : Nat) (ch : Bool) (o : Nat → Bool), k ≤ D.1.length ∧ v4 = .bool ch ∧ i = .int .i64 k ∧ Below W.heap.size W wr ∧ Hid (wr.ownsRow W.heap.size 4 1 (.slice (some ⟨g, 0, none⟩) D.1.length cap) D.1.length (fB D.1.length o)) ∧ Hid (UI D o0 k 0 ch o)) (fun _ i _ => D.1.length - (intOf i).toNat)
      case atStart => exact ⟨0, false, o0, by omega, rfl, rfl, hb, ho, HU0⟩
      case round =>
        clear hb ho HU0
        obtain ⟨k, ch, o, hk, rfl, rfl, hb, ho, hU⟩ := hrel
        by_cases hlk : k < D.1.length
        · obtain ⟨bn, on, br, or_, cr, e1, hs1, _, hs2⟩ := H.out.row HD.out hlk
          cases e1
          have Hs1 := Lib.hid hs1
          have Hs2 := Lib.hid hs2
          have hsI : (k : Int) < (D.1.length : Int) := by omega
          clear hs1 hs2
          go_wp2_with fail
          go_loopw [4, 6] (fun v4 i wr => ∃ (c : Nat) (ch : Bool) (o : Nat → Bool), c ≤ 3 ∧ v4 = .bool ch ∧ i = .int .i64 c ∧ Below W.heap.size W wr ∧ Hid (wr.ownsRow W.heap.size 4 1 (.slice (some ⟨g, 0, none⟩) D.1.length cap) D.1.length (fB D.1.length o)) ∧ Hid (UI D o0 k c ch o)) (fun _ i _ => 3 - (intOf i).toNat)
          case atStart => exact ⟨0, ch, o, by omega, rfl, rfl, hb, ho, hU⟩
          case round =>
            clear hb ho hU
            obtain ⟨c, ch', o, hc, rfl, rfl, hb, ho, hU⟩ := hrel
            have d1 := own_fB ho.out hlk
            obtain ⟨x, hx⟩ : ∃ x, x = o k := ⟨_, rfl⟩
            rw [← hx] at d1
            by_cases hc3 : c < 3
            · have hcI : (c : Int) < 3 := by omega
              cases x
              · have htn := dn_lt HD.out hlk hc3
                obtain ⟨c0, c1, _, _⟩ := blk2 (blkBel hb K0.out)
                have d3 := kpB (S := fun _ => True) hb _ _ trivial Hs1.out
                have d0 := kpB (S := fun _ => True) hb _ _ trivial (Hs2.out c hc3)
                have d2 := own_fB ho.out htn
                have fz := ho.out.frozenAt k
                obtain ⟨t, ht⟩ : ∃ t, t = dn D k c := ⟨_, rfl⟩
                rw [← ht] at d0 d2 htn
                have htI : (t : Int) < (D.1.length : Int) := by omega
                obtain ⟨y, hy⟩ : ∃ y, y = o t := ⟨_, rfl⟩
                rw [← hy] at d2
                cases y
                · have hU2 := Lib.hid (UI_no hU.out (by rw [← ht]; exact hy.symm))
                  clear hx hy ht
                  go_wp2
                  go_roundw
                  case rel => exact ⟨c + 1, ch', o, by omega, rfl, by go_num, hb, ho, hU2⟩
                  case measure => simp [intOf]; omega
                · have hU2 := Lib.hid (UI_yes HD.out hlk hc3 hU.out hx.symm (by rw [← ht]; exact hy.symm))
                  have Hup := Lib.hid (own_upd ho.out k true)
                  have Hbs := hb.setCell (p := ⟨g, k, none⟩) hg (.bool true)
                  clear hx hy ht
                  go_wp2
                  go_roundw
                  case rel => exact ⟨c + 1, true, _, by omega, rfl, by go_num, Hbs, Hup, hU2⟩
                  case measure => simp [intOf]; omega
              · have hU2 := Lib.hid (UI_row hU.out (.inr hx.symm))
                clear hx
                go_wp2
                go_roundw
                case rel => exact ⟨k + 1, ch', o, by omega, rfl, by go_num, hb, ho, hU2⟩
                case measure => simp [intOf]; omega
            · obtain rfl : c = 3 := by omega
              have hU2 := Lib.hid (UI_row hU.out (.inl rfl))
              clear hx
              go_wp2
              go_roundw
              case rel => exact ⟨k + 1, ch', o, by omega, rfl, by go_num, hb, ho, hU2⟩
              case measure => simp [intOf]; omega
        · obtain rfl : k = D.1.length := by omega
          have hnk : ¬ ((D.1.length : Int) < (D.1.length : Int)) := by omega
          have H1 := Lib.hid hU.out.1
          have H2 := Lib.hid hU.out.2.1
          have H3 : Hid (ch = true → D.1.length + 1 - cntB D.1.length o ≤ gk - 1) := fun e => by
            subst e
            have := UI_cnt hU.out
            have := cntB_le D.1.length o
            have := Hmk.out
            omega
          have H4 : Hid (ch = false → ∀ s, s < D.1.length → o s = leadB D s) := fun e => by
            subst e
            exact UI_end HD.out hU.out
          go_wp2
          go_roundg (gk - 1)
          case measure => have := Hmk.out; have := Hci.out; omega
          case rel => exact ⟨o, ch, rfl, hb, ho, H1, H2, H3, H4⟩
end Go.Proofs.Ytofamhgkiipagaa
