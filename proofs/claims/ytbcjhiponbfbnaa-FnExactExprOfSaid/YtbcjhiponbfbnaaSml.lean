/- The smallest automaton: the reference's. -/
import Derived.Test.YtbcjhiponbfbnaaGG
import Derived.Test.YtbcjhiponbfbnaaCls
set_option linter.unusedSimpArgs false
set_option linter.unusedVariables false
set_option linter.unusedSectionVars false
namespace Go.Proofs.Ytbcjhiponbfbnaa
open Go.RowKit
set_option maxRecDepth 100000
variable {S T : Nat → Prop}
set_option maxHeartbeats 4000000 in
theorem l10Small_c (vn ve : Value) (D : DfaD) (w : World) (h : DfaR S w vn ve D) (hD : okD D) : Calls Try.prog 64 #[.agg #[vn, ve]] w (RD (canon (lgD D)) w) := by
  obtain ⟨a, ca, b, d, rfl, rfl, hn, hm⟩ := (h).shapes
  obtain ⟨W, hW⟩ : ∃ W, W = (w.alloc (.cells #[.slice a D.1.length ca, .slice b D.2.length d] 52)).alloc (.cells #[.slice none 0 0, .slice none 0 0] 52) := ⟨_, rfl⟩
  have Hb0 : Hid (Below w.heap.size w W) := by rw [hW]; exact ((Below.refl _ _).alloc (Nat.le_refl _) _).alloc (by simp) _
  have K0 : Hid (W.heap[w.heap.size]? = some (.cells #[.slice a D.1.length ca, .slice b D.2.length d] 52 (0, 0))) := by rw [hW]; exact blkOld (blkNew _ _ rfl)
  have K1 : Hid (W.heap[w.heap.size + 1]? = some (.cells #[.slice none 0 0, .slice none 0 0] 52 (0, 0))) := by rw [hW]; exact blkNew _ _ (by simp)
  have Hz : Hid (W.heap.size = w.heap.size + 2) := by rw [hW]; simp [Hid]
  have H := Lib.hid ((h).stay (kpB Hb0.out)); clear h
  have HW := Lib.hid hW; clear hW
  obtain ⟨c0, c1, _, _⟩ := blk2 K0.out
  rw [HW.out] at c0 c1
  have HTr := DfaTrim_c _ _ D W H.out
  rw [orNo_pos hD] at HTr
  have HC1 := Lib.hid HTr
  have HEq := Lib.hid (small_eq hD)
  have HTo := Lib.hid (trim_ok hD)
  clear HTr hD
  generalize trimD D = T at *
  have hn40 : T.1.length ≤ 40 := HTo.out.1.2
  have hn1 : 1 ≤ T.1.length := HTo.out.1.1
  go_enter Try.func64, Try.ntmps64
  go_wp2_with fail
  rw [← HW.out] at c0 c1 ⊢
  clear c0 c1
  refine HC1.out.mono ?_
  rintro e w1 ⟨t1, t2, rfl, hb1, hd1⟩
  have HR1 := Lib.hid hd1.out.rd
  obtain ⟨aN, cN, aE, cE, rfl, rfl, _, _⟩ := HR1.out.shapes
  have K1' := Lib.hid (blkBel hb1 K1.out)
  have hbw := Lib.hid (Hb0.out.trans (hb1.mono Hb0.out.size))
  have hz1 : w.heap.size + 2 ≤ w1.heap.size := by have := hb1.size; have := Hz.out; omega
  obtain ⟨W1, hW1⟩ : ∃ W1, W1 = w1.alloc (.cells #[.slice aN T.1.length cN, .slice aE T.2.length cE] 52) := ⟨_, rfl⟩
  have hbx : Below w1.heap.size w1 W1 := by rw [hW1]; exact (Below.refl _ _).alloc (Nat.le_refl _) _
  have Kx : Hid (W1.heap[w1.heap.size]? = some (.cells #[.slice aN T.1.length cN, .slice aE T.2.length cE] 52 (0, 0))) := by rw [hW1]; exact blkNew _ _ rfl
  have hzx : w1.heap.size < W1.heap.size := (Array.getElem?_eq_some_iff.1 Kx.out).1
  have HRx := Lib.hid (HR1.out.stay (kpB hbx))
  have Kr := Lib.hid (blkBel hbx K1'.out)
  have hbw1 := Lib.hid (hbw.out.trans (hbx.mono hbw.out.size))
  have HW1 := Lib.hid hW1
  clear hW1 hbx hbw K1' HR1 hd1 hb1 HC1 K1 K0 H Hb0 HW Hz
  obtain ⟨x0, x1, _, _⟩ := blk2 Kx.out
  rw [HW1.out] at x0 x1
  go_wp2_with fail
  clear x0 x1
  rw [← HW1.out]
  refine (l10Classes_c _ _ T W1 HRx.out HTo.out).mono ?_
  rintro e w2 ⟨vo, rfl, hb2, ho2⟩
  have K0 := Lib.hid (blkBel hb2 Kx.out)
  have K1 := Lib.hid (blkBel hb2 Kr.out)
  have HD2 := Lib.hid (HRx.out.stay (kpB hb2))
  have hbw2 := Lib.hid (hbw1.out.trans (hb2.mono hbw1.out.size))
  have hz2 : w.heap.size + 2 ≤ w2.heap.size := by have := hb2.size; omega
  obtain ⟨gc, capc, rfl, hgc, _, _⟩ := own_some ho2.out (by omega)
  have HO := ho2
  clear ho2 HRx Kx Kr hbw1 HW1 hzx hb2 hgc
  obtain ⟨W4, hW4⟩ : ∃ W4, W4 = w2.alloc (.cells #[.slice none 0 0, .slice none 0 0] 52) := ⟨_, rfl⟩
  have HX : Hid (BS w2.heap.size w2 w2.heap.size [] [] (.slice none 0 0) (.slice none 0 0) W4) := by
    rw [hW4]
    exact ⟨(Below.refl _ _).alloc (Nat.le_refl _) _, by simp, Nat.le_refl _, blkNew _ _ rfl, World.ownsRow_nil _ _ _ _, World.ownsRow_nil _ _ _ _, nofun, List.nodup_nil⟩
  have HW4 := Lib.hid hW4
  clear hW4
  go_wp2_with fail
  rw [← HW4.out]
  clear HW4
  have HI : Hid (∀ w' : World, Below w2.heap.size w2 w' → ∀ t, t < T.1.length → w'.cell? ⟨gc, t, none⟩ = some (.int .i64 ((cls T t : Nat) : Int))) := fun w' hb' t ht =>
    kpB (S := fun _ => True) hb' _ _ trivial (own_fK HO.out ht)
  clear HO
  go_loopw [6] (fun i wr => ∃ (k : Nat) (rs : List (Value × List Int)) (vN vE : Value), k ≤ T.1.length ∧ i = .int .i64 k ∧ Hid (rs.map (·.2) = (List.range k).map fun s => rowC T s 3) ∧
    Hid (BS w2.heap.size w2 w2.heap.size rs ((List.range k).map (de T)) vN vE wr)) (fun i _ => T.1.length - (intOf i).toNat)
  case atStart => exact ⟨0, [], _, _, by omega, rfl, rfl, HX⟩
  case round =>
    clear HX
    obtain ⟨k, rs, vN, vE, hk, rfl, Hrs, HX⟩ := hrel
    have Hrl : Hid (rs.length = k) := by have := congrArg List.length Hrs.out; unfold Hid; simpa using this
    obtain ⟨c0, c1, _, _⟩ := blk2 (blkBel HX.out.bel K0.out)
    by_cases hlt : k < T.1.length
    · have Htk : Hid (List.range (k + 1) = List.range k ++ [k]) := List.range_succ
      go_wp2_with fail
      clear c0 c1
      obtain ⟨B6, hB6⟩ : ∃ B6, B6 = wr.heap.size := ⟨_, rfl⟩
      have ho6 : Hid ((wr.alloc (.cells #[] 3)).ownsRow w2.heap.size 3 1 (.slice (some ⟨B6, 0, none⟩) 0 0) 0 []) := by rw [hB6]; exact ownLit [] HX.out.size (by omega) rfl
      have HX6 := Lib.hid (HX.out.stay ((Below.refl wr.heap.size wr).alloc (Nat.le_refl _) (.cells #[] 3)))
      have Hne6 : Hid (∀ p ∈ rs, p.1.ownBlock ≠ Value.ownBlock (.slice (some ⟨B6, 0, none⟩) 0 0)) := fun p hp he => by
        obtain ⟨g, e1, hg⟩ := HX.out.lt hp
        rw [e1, hB6] at he
        simp [Value.ownBlock] at he
        omega
      rw [← hB6]
      clear hB6 HX
      generalize wr.alloc (.cells #[] 3) = w6 at *
      go_loopw [7, 8] (fun m i wr => ∃ c : Nat, c ≤ 3 ∧ i = .int .i64 c ∧ Hid (wr.ownsRow w2.heap.size 3 1 m c ((rowC T k c).map (.int .i64 ·))) ∧ Hid (∀ p ∈ rs, p.1.ownBlock ≠ m.ownBlock) ∧
        Hid (BS w2.heap.size w2 w2.heap.size rs ((List.range k).map (de T)) vN vE wr)) (fun _ i _ => 3 - (intOf i).toNat)
      case atStart => exact ⟨0, by omega, rfl, ho6, Hne6, HX6⟩
      case round =>
        clear ho6 Hne6 HX6
        obtain ⟨c, hc, rfl, ho, hne, HX⟩ := hrel
        by_cases hc3 : c < 3
        · obtain ⟨bn, on, br, or_, cr, e1, hs1, hs2, hs3⟩ := (HD2.out.stay (kpB HX.out.bel)).step HTo.out hlt hc3
          cases e1
          obtain ⟨c0, c1, _, _⟩ := blk2 (blkBel HX.out.bel K0.out)
          have Hrow : Hid (rowC T k (c + 1) = rowC T k c ++ [((cls T (dn T k c) : Nat) : Int)]) := rowC_succ T k c
          have d1 := HI.out wr HX.out.bel _ hs3
          obtain ⟨t, ht⟩ : ∃ t, t = dn T k c := ⟨_, rfl⟩
          rw [← ht] at hs2 hs3 Hrow d1
          clear ht
          have htI : (t : Int) < (T.1.length : Int) := by omega
          have hkI : (k : Int) < (T.1.length : Int) := by omega
          have hcI : (c : Int) < 3 := by omega
          generalize cls T t = y at *
          obtain ⟨am, capm, rfl, _⟩ := (ownFl ho.out).shape
          have hzr : w2.heap.size ≤ wr.heap.size := HX.out.size
          go_wp2_with (
            refine appAt elInt (by decide) rfl (.tmp 26) (.tmp 38) rfl w2.heap.size _ _ _ [.int .i64 ((y : Nat) : Int)] wr rfl rfl rfl ho.out rfl (by simp [Value.oneCell']) (by omega) hzr ?_
            intro v7 w7 ho7 hg7 hat7
            have HX7 := Lib.hid (HX.out.grow ho.out hg7 hne.out)
            have hne8 : Hid (∀ p ∈ rs, p.1.ownBlock ≠ v7.ownBlock) := fun p hp he => by
              rcases hat7.out with h | h
              · exact hne.out p hp (he.trans h)
              · obtain ⟨g, e1, hg⟩ := HX.out.lt hp
                rw [e1] at he
                rw [h] at he
                injection he with he
                omega
            have ho8 : Hid (w7.ownsRow w2.heap.size 3 1 v7 (c + 1) ((rowC T k (c + 1)).map (.int .i64 ·))) := by rw [Hrow.out, List.map_append]; exact ho7.out
            clear hat7 hg7 ho7)
          go_roundw
          case rel => exact ⟨c + 1, by omega, by go_num, ho8, hne8, HX7⟩
          case measure => simp [intOf]; omega
        · obtain rfl : c = 3 := by omega
          obtain ⟨am, capm, rfl, _⟩ := (ownFl ho.out).shape
          obtain ⟨c0, c1, f0, f1⟩ := blk2 HX.out.b4
          have hzr : w2.heap.size ≤ wr.heap.size := HX.out.size
          have hr3 : OwI wr w2.heap.size (.slice am 3 capm) (rowC T k 3) := by
            have := ho.out
            unfold OwI
            rw [rowC_len]
            exact this
          go_wp2_with (
            refine appAt elInts (by decide) rfl (.tmp 41) (.tmp 43) rfl w2.heap.size _ _ _ [.slice am 3 capm] wr rfl rfl rfl HX.out.nx rfl (by simp [Value.oneCell']) (by have := Hrl.out; omega) HX.out.size ?_
            intro v4 w4 ho4 hg4 hat4
            obtain ⟨a4, cap4, rfl, _⟩ := (ownFl ho4.out).shape
            have HXn := Lib.hid (HX.out.row (r := rowC T k 3) (by rw [rowC_len]; omega) hr3 hne.out hg4 ho4.out)
            have b4 := blkGrow hg4 HX.out.b4 (own_cells' HX.out.nx HX.out.b4 (by decide))
            obtain ⟨c0', c1', f0', f1'⟩ := blk2 b4
            clear b4 c0 c1 f0 f1 hat4 ho4)
          generalize w4.setCell ⟨w2.heap.size, 0, none⟩ (.slice a4 (rs.length + 1) cap4) = w5 at *
          clear hg4 HX c0' c1' f0' f1' ho hr3 hne
          have Hrs2 : Hid ((rs ++ [(Value.slice am 3 capm, rowC T k 3)]).map (·.2) = (List.range (k + 1)).map fun s => rowC T s 3) := by
            rw [Htk.out, List.map_append, List.map_append, Hrs.out]; rfl
          have Hes : Hid ((List.range k).map (de T) ++ [de T k] = (List.range (k + 1)).map (de T)) := by rw [Htk.out, List.map_append]; rfl
          have Hml : Hid (((List.range k).map (de T)).length = k) := by unfold Hid; simp
          obtain ⟨es, hes⟩ : ∃ es, es = (List.range k).map (de T) := ⟨_, rfl⟩
          rw [← hes] at HXn Hml Hes
          clear hes
          obtain ⟨aE', capE, rfl, _⟩ := (ownFl HXn.out.en).shape
          obtain ⟨c0, c1, f0, f1⟩ := blk2 HXn.out.b4
          obtain ⟨be, oe, e1, he⟩ := HD2.out.mark HTo.out hlt
          cases e1
          have hsI : (k : Int) < (T.2.length : Int) := by rw [HTo.out.2.1]; omega
          have hsl : k < T.2.length := by rw [HTo.out.2.1]; omega
          generalize de T k = x at *
          have hb5 : Below w2.heap.size w2 w5 := HXn.out.bel
          have e1D : w5.drew.cell? ⟨w1.heap.size, 1, none⟩ = some (.slice (some ⟨be, oe, none⟩) T.2.length cE) := kpB (S := fun _ => True) hb5 _ _ trivial (blk2 K0.out).2.1
          have e2D : w5.drew.cell? ⟨be, oe + k, none⟩ = some (.bool x) := kpB (S := fun _ => True) hb5 _ _ trivial he
          have hz5 : w2.heap.size ≤ w5.heap.size := HXn.out.size
          have HXD := Lib.hid HXn.out.drew
          have c1D : w5.drew.cell? ⟨w2.heap.size, 1, none⟩ = some (.slice aE' es.length capE) := c1
          have c1A : (w5.drew.alloc (.cells #[.bool x] 4)).cell? ⟨w2.heap.size, 1, none⟩ = some (.slice aE' es.length capE) := kpAlloc (S := fun _ => True) _ _ trivial c1D
          have c1B : (w5.alloc (.cells #[.bool x] 4)).drew.cell? ⟨w2.heap.size, 1, none⟩ = some (.slice aE' es.length capE) := c1A
          clear he
          go_region_law
            (refine stepAppAt elBool (by decide) rfl (.tmp 47) (.tmp 53) rfl w2.heap.size _ _ _ [.bool x] _ w5.heap.size rfl rfl (HXD.out.en.alloc _) (by exact blkNew _ _ rfl) rfl (by simp [Value.oneCell']) (by have := Hml.out; omega) (by simp; omega) ?_
             intro g7 cap7 w7 ho7 hg7 hat7
             have hg8 : w5.drew.grownBy w7 _ := grownTrans (grownBel ((Below.refl _ _).alloc (Nat.le_refl _) _)) hg7
             have HX7 := Lib.hid (HXD.out.mark hg8 ho7.out)
             have b4' := blkGrow hg8 HXD.out.b4 (own_cells' HXD.out.en HXD.out.b4 (by decide))
             obtain ⟨c0', c1', f0', f1'⟩ := blk2 b4'
             clear b4')
          all_goals (
            rw [Hes.out] at HX7
            clear c1D c1A c1B e1D e2D HXD HXn hg8 hat7 hg7 ho7 c0' c1' f0' f1' c0 c1 f0 f1
            go_wp2
            go_roundw
            case rel => exact ⟨k + 1, _, _, _, by omega, by go_num, Hrs2, HX7⟩
            case measure => simp [intOf]; omega)
    · obtain rfl : k = T.1.length := by omega
      have hd := HX.out.dfa (by have := Hrl.out; omega) (by simp; omega)
      rw [Hrs.out] at hd
      change DfaW _ _ _ _ (smlD T) at hd
      have hko := sml_ok HTo.out
      have HQd := Lib.hid hd.rd
      obtain ⟨d0, d1, _, _⟩ := blk2 HX.out.b4
      have hb5 := HX.out.bel
      have hsz := HX.out.size
      obtain ⟨aN', capN, bN, capN', rfl, rfl, _, _⟩ := hd.rd.shapes
      have hnk : ¬ ((T.1.length : Int) < (T.1.length : Int)) := by omega
      have HC := DfaTrim_c _ _ (smlD T) wr HQd.out
      rw [orNo_pos hko, HEq.out] at HC
      have HC2 := Lib.hid HC
      have Kr := Lib.hid (blkBel hb5 K1.out)
      have hbw5 := Lib.hid (hbw2.out.trans (hb5.mono hbw2.out.size))
      clear HC hko hd HX Hrl Hrs hlt hk hb5
      generalize smlD T = Q at *
      go_wp2_with fail
      clear d0 d1 c0 c1
      refine HC2.out.mono ?_
      rintro e w6 ⟨r1, r2, rfl, hb6, hd6⟩
      have HRf := Lib.hid hd6.out.rd
      have HDf := hd6
      clear hd6
      generalize canon (lgD D) = C at *
      obtain ⟨aN', capN, bN, capN', rfl, rfl, _, _⟩ := HRf.out.shapes
      obtain ⟨z0, z1, y0, y1⟩ := blk2 (blkBel hb6 Kr.out)
      have hbf := hbw5.out.trans (hb6.mono hbw5.out.size)
      have hsz6 := hb6.size
      go_wp2
      have f0 := cell_setOther (o := 1) (u := .slice bN C.2.length capN') (cell_setSame (u := .slice aN' C.1.length capN) z0) (by omega)
      have f1 := cell_setSame (u := .slice bN C.2.length capN') (cell_setOther (o := 0) (u := .slice aN' C.1.length capN) z1 (by omega))
      refine bodyPost_ret (v := .agg #[.slice aN' C.1.length capN, .slice bN C.2.length capN']) (by simp [results, Try.results64, go_sem, f0, f1]) rfl ?_
      exact RD.fin hbf (by omega) (HDf.out.mono (fun b hb => ⟨⟨by omega, hb.2⟩, by omega⟩))
end Go.Proofs.Ytbcjhiponbfbnaa
