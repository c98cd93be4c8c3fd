/- ExprOf: the reference's. UNDER WAY. -/
import Derived.Deep.RegionHeld3
import Derived.Deep.CutRange
import Derived.Deep.CutBlock
import Derived.Test.YtbcjhiponbfbnaaEit
import Derived.Test.YtbcjhiponbfbnaaSml
set_option linter.unusedSimpArgs false
set_option linter.unusedVariables false
set_option linter.unusedSectionVars false
namespace Go.Proofs.Ytbcjhiponbfbnaa
open Go.RowKit
set_option maxRecDepth 100000
variable {S T : Nat → Prop}
/-- An expression and true, or no parts and false. -/
def RXo (w : World) (o : Option Re) (e : Ending) (w' : World) : Prop := ∃ (v : Value) (b : Bool), e = .returned (.tuple #[v, .bool b]) ∧ Below w.heap.size w w' ∧ Hid (b = o.isSome) ∧ Hid (∀ t, o = some t → PR w' v t) ∧ Hid (o = none → PL0 w' v [])
theorem RXo.no {w w' : World} {o : Option Re} {v : Value} (hb : Below w.heap.size w w') (hp : PL0 w' v []) (ho : o = none) : RXo w o (.returned (.tuple #[v, .bool false])) w' :=
  ⟨v, false, rfl, hb, by rw [ho]; rfl, by rw [ho]; exact nofun, fun _ => hp⟩
theorem RXo.yes {w w' : World} {o : Option Re} {v : Value} {t : Re} (hb : Below w.heap.size w w') (hp : PR w' v t) (ho : o = some t) : RXo w o (.returned (.tuple #[v, .bool true])) w' :=
  ⟨v, true, rfl, hb, by rw [ho]; rfl, by rw [ho]; exact fun _ h => by cases h; exact hp, by rw [ho]; exact nofun⟩
theorem l5Join {a b : Re} (ha : a.wf) (hb : b.wf) : L5 4 0 a.flat b.flat (a.mkJoin b) := ⟨mkJoin_wf ha hb, .inl ⟨rfl, rfl, a, b, ha, hb, rfl, rfl, rfl⟩⟩
theorem l5Either {a b : Re} (ha : a.wf) (hb : b.wf) : L5 5 0 a.flat b.flat (a.mkEither b) := ⟨mkEither_wf ha hb, .inr (.inl ⟨rfl, rfl, a, b, ha, hb, rfl, rfl, rfl⟩)⟩
theorem l5Star {a : Re} (ha : a.wf) : L5 8 0 a.flat [] a.mkStar := ⟨mkStar_wf ha, .inr (.inr (.inr (.inr (.inl ⟨rfl, rfl, a, ha, rfl, rfl, rfl⟩))))⟩
theorem opE_c (a b R : Re) (hR : R = a.mkEither b) (va vb : Value) (w : World) (hA : PR w va a) (hB : PR w vb b) (hl : a.len + b.len ≤ 100000) : Calls Try.prog 65 #[.int .i64 5, va, vb] w (RE w R) := by
  subst hR
  exact l18Op_c 5 _ _ _ (l5Either hA.1 hB.1) _ _ w hA.2 hB.2 (by unfold Re.len at hl; omega) (by have := len_mkEither a b; omega)
theorem opJ_c (a b R : Re) (hR : R = a.mkJoin b) (va vb : Value) (w : World) (hA : PR w va a) (hB : PR w vb b) (hl : a.len + b.len ≤ 100000) : Calls Try.prog 65 #[.int .i64 4, va, vb] w (RE w R) := by
  subst hR
  exact l18Op_c 4 _ _ _ (l5Join hA.1 hB.1) _ _ w hA.2 hB.2 (by unfold Re.len at hl; omega) (by have := len_mkJoin a b; omega)
theorem opS_c (a R : Re) (hR : R = a.mkStar) (va vb : Value) (w : World) (hA : PR w va a) (hB : PL0 w vb []) (hl : a.len ≤ 100000) : Calls Try.prog 65 #[.int .i64 8, va, vb] w (RE w R) := by
  subst hR
  exact l18Op_c 8 _ _ _ (l5Star hA.1) _ _ w hA.2 hB (by unfold Re.len at hl; simp; omega) (by have := len_mkStar a; omega)
set_option maxHeartbeats 16000000 in
theorem sExprOf_yes (vn ve : Value) (D : DfaD) (w : World) (h : DfaR S w vn ve D) (hD : okD D) : Calls Try.prog 26 #[.agg #[vn, ve]] w (RXo w (ansE (canon (lgD D)))) := by
  obtain ⟨a, ca, b, d, rfl, rfl, hn, hm⟩ := h.shapes
  obtain ⟨W, hW⟩ : ∃ W, W = w.alloc (.cells #[.slice a D.1.length ca, .slice b D.2.length d] 52) := ⟨_, rfl⟩
  have Hb0 : Hid (Below w.heap.size w W) := by rw [hW]; exact (Below.refl _ _).alloc (Nat.le_refl _) _
  have K0 : Hid (W.heap[w.heap.size]? = some (.cells #[.slice a D.1.length ca, .slice b D.2.length d] 52 (0, 0))) := by rw [hW]; exact blkNew _ _ rfl
  have H := Lib.hid (h.stay (kpB Hb0.out)); clear h
  have HW := Lib.hid hW; clear hW
  have HD := Lib.hid hD
  obtain ⟨o, ho⟩ : ∃ o, o = ansE (canon (lgD D)) := ⟨_, rfl⟩
  rw [← ho]
  have HOo := Lib.hid ho
  clear ho
  have HC := Lib.hid (canon_ok hD)
  clear hD
  go_enter Try.func26, Try.ntmps26
  go_wp2_with fail
  rw [← HW.out]
  refine (sDfaValid_c _ _ D W H.out).mono ?_
  rintro e w1 ⟨b1, rfl, hb1, hv⟩
  obtain rfl : b1 = true := hv.out.2 HD.out
  have H1 := Lib.hid (H.out.stay (kpB hb1))
  obtain ⟨c0, c1, _, _⟩ := blk2 (blkBel hb1 K0.out)
  have HB1 := Lib.hid (Hb0.out.trans (hb1.mono Hb0.out.size))
  clear hv hb1 H K0 Hb0 HW
  go_wp2_with fail
  refine (l10Small_c _ _ D w1 H1.out HD.out).mono ?_
  rintro e w2 ⟨vn2, ve2, rfl, hb2, hd2⟩
  have HR2 := Lib.hid hd2.out.rd
  have HB2 := Lib.hid (HB1.out.trans (hb2.mono HB1.out.size))
  obtain ⟨D2, hD2⟩ : ∃ D2, D2 = canon (lgD D) := ⟨_, rfl⟩
  rw [← hD2] at HR2 HC HOo
  obtain ⟨aN, cN, aE, cE, rfl, rfl, _, _⟩ := HR2.out.shapes
  clear hd2 hb2 hD2 H1 HB1 c0 c1 HD
  have hn40 : D2.1.length ≤ 40 := HC.out.1.2
  have hn1 : 1 ≤ D2.1.length := HC.out.1.1
  obtain ⟨Z, hZ⟩ : ∃ Z, Z = ((w2.alloc (.cells #[.slice aN D2.1.length cN, .slice aE D2.2.length cE] 52)).alloc (.cells #[.int .i64 1, .int .i64 0] 67)).alloc (.cells #[] 84) := ⟨_, rfl⟩
  have hbZ : Below w2.heap.size w2 Z := by rw [hZ]; exact (((Below.refl _ _).alloc (Nat.le_refl _) _).alloc (by simp) _).alloc (by simp; omega) _
  have KH : Hid (Z.heap[w2.heap.size]? = some (.cells #[.slice aN D2.1.length cN, .slice aE D2.2.length cE] 52 (0, 0))) := Lib.hid (by rw [hZ]; exact blkOld (blkOld (blkNew _ _ rfl)))
  have HON : Hid (OwnP Z w2.heap.size (.slice (some ⟨w2.heap.size + 1, 0, none⟩) 1 1) [(1, 0)]) := Lib.hid (by
    rw [hZ]
    have := ownLit (w := w2.alloc (.cells #[.slice aN D2.1.length cN, .slice aE D2.2.length cE] 52)) (base := w2.heap.size) (n := 1) (e := 67) (sz := 2) [.int .i64 1, .int .i64 0] (by simp) (by omega) rfl
    rw [show (w2.alloc (.cells #[.slice aN D2.1.length cN, .slice aE D2.2.length cE] 52)).heap.size = w2.heap.size + 1 by simp] at this
    exact ownStay this ((Below.refl _ _).alloc (Nat.le_refl _) _))
  have HPN : Hid (PR Z (.slice (some ⟨w2.heap.size + 1, 0, none⟩) 1 1) .none) := Lib.hid (OwnP.pr (t := .none) HON.out trivial)
  have HT0 : Hid (EtR Z w2.heap.size (.slice (some ⟨w2.heap.size + 1 + 1, 0, none⟩) 0 0) (tabT (tabE D2 0) D2.1.length 0) []) := Lib.hid ⟨by
    rw [hZ]
    have := ownLit (w := (w2.alloc (.cells #[.slice aN D2.1.length cN, .slice aE D2.2.length cE] 52)).alloc (.cells #[.int .i64 1, .int .i64 0] 67)) (base := w2.heap.size) (n := 0) (e := 84) (sz := 1) [] (by simp; omega) (by omega) rfl
    rw [show ((w2.alloc (.cells #[.slice aN D2.1.length cN, .slice aE D2.2.length cE] 52)).alloc (.cells #[.int .i64 1, .int .i64 0] 67)).heap.size = w2.heap.size + 1 + 1 by simp] at this
    exact this, fun i hi => absurd hi (by simp [tabT])⟩
  have HBZ := Lib.hid hbZ
  have HZ := Lib.hid hZ
  clear hZ hbZ HON
  go_wp2_with fail
  rw [← HZ.out]
  clear HZ
  obtain ⟨n, hn⟩ : ∃ n, n = D2.1.length := ⟨_, rfl⟩
  have HN := Lib.hid hn
  rw [← hn] at hn40 hn1 KH HT0 HR2 ⊢
  clear hn
  go_loopw [7, 8, 9, 10, 11, 12] (fun v i _ _ _ _ wr => ∃ (k gT cT : Nat) (cs : List Value), k ≤ n ∧ i = .int .i64 k ∧ v = .slice (some ⟨gT, 0, none⟩) k cT ∧ Hid (EtR wr w2.heap.size v (tabT (tabE D2 0) n k) cs) ∧ Hid (Below w2.heap.size w2 wr) ∧
      Hid (wr.heap[w2.heap.size]? = some (.cells #[.slice aN n cN, .slice aE D2.2.length cE] 52 (0, 0))) ∧ Hid (PR wr (.slice (some ⟨w2.heap.size + 1, 0, none⟩) 1 1) .none)) (fun _ i _ _ _ _ _ => n - (intOf i).toNat)
  case atStart => exact ⟨0, _, _, [], by omega, rfl, rfl, HT0, HBZ, KH, HPN⟩
  case round =>
    clear HT0 HBZ KH HPN
    obtain ⟨k, gT, cT, cs, hk, rfl, rfl, hT, hB, hK, hP⟩ := hrel
    by_cases hlt : k < n
    · have hkI : (k : Int) < (n : Int) := by omega
      obtain ⟨w3, hw3⟩ : ∃ w3, w3 = wr := ⟨_, rfl⟩
      subst hw3
      obtain ⟨wk, hwk⟩ : ∃ x, x = w3.heap.size := ⟨_, rfl⟩
      have hE0 : Hid (EvR (w3.alloc (.cells #[] 23)) wk (.slice (some ⟨w3.heap.size, 0, none⟩) 0 0) (rowT (tabE D2 0 k) 0)) := Lib.hid ⟨[], ownLit (n := 0) [] (by omega) (by omega) rfl, fun i hi => absurd hi (by simp [rowT])⟩
      have hBW0 : Hid (Below wk w3 (w3.alloc (.cells #[] 23))) := Lib.hid ((Below.refl _ _).alloc (by omega) _)
      have Hwk := Lib.hid hwk
      clear hwk
      go_wp2_with fail
      go_loopw [9, 10, 11, 12] (fun v i _ _ wz => ∃ (j g9 c9 : Nat), j ≤ n ∧ i = .int .i64 j ∧ v = .slice (some ⟨g9, 0, none⟩) j c9 ∧ Hid (EvR wz wk v (rowT (tabE D2 0 k) j)) ∧ Hid (Below wk w3 wz)) (fun _ i _ _ _ => n - (intOf i).toNat)
      case atStart => exact ⟨0, _, _, by omega, rfl, rfl, hE0, hBW0⟩
      case round =>
        clear hE0 hBW0
        obtain ⟨j, g9, c9, hj, rfl, rfl, hE, hBk⟩ := hrel
        by_cases hjl : j < n
        · have hjI : (j : Int) < (n : Int) := by omega
          obtain ⟨w5, hw5⟩ : ∃ w5, w5 = wr := ⟨_, rfl⟩
          subst hw5
          have hb35 := hBk.out
          rw [Hwk.out] at hb35
          have hP5 := Lib.hid (hP.out.stay hb35)
          have hK5 := Lib.hid (blkBel hb35 hK.out)
          have hB5 := Lib.hid (hB.out.trans (hb35.mono hB.out.size))
          have hkD : k < D2.1.length := by rw [← HN.out]; exact hlt
          obtain ⟨rb, ro, vr, e0, hc, hrow⟩ := ((HR2.out.stay (kpB hB5.out)).1).at hkD
          subst e0
          obtain ⟨ar, cr, rfl, _⟩ := hrow.shape
          have hr3 := (HC.out.2.2 _ (List.getElem_mem hkD)).1
          have HG : Hid (D2.1.getD k [] = D2.1[k]) := Lib.hid (by rw [List.getD_eq_getElem?_getD, List.getElem?_eq_getElem hkD]; rfl)
          generalize D2.1[k] = row at *
          rw [hr3] at hrow hc
          have HL3 := Lib.hid hr3
          have HRow := Lib.hid hrow
          have HCr := Lib.hid hc
          have hPF : Hid (PR w5 (.slice (some ⟨w2.heap.size + 1, 0, none⟩) 1 1) (dirF row j 0)) := hP5
          clear hr3 hrow hc hb35
          go_wp2_with fail
          go_loopw [11, 12] (fun v c wz => ∃ (q : Nat), q ≤ 3 ∧ c = .int .i64 q ∧ Hid (PR wz v (dirF row j q)) ∧ Hid (Below w5.heap.size w5 wz)) (fun _ c _ => 3 - (intOf c).toNat)
          case atStart => exact ⟨0, by omega, rfl, hPF, Lib.hid (Below.refl _ _)⟩
          case round =>
            clear hPF
            obtain ⟨q, hq, rfl, hPq, hBq⟩ := hrel
            obtain ⟨a2, n2, x2, rfl⟩ := hPq.out.slX
            by_cases hql : q < 3
            · have hqI : (q : Int) < 3 := by omega
              obtain ⟨d0, d1, _, _⟩ := blk2 (blkBel hBq.out hK5.out)
              have d2 := kpB (S := fun _ => True) hBq.out _ _ trivial HCr.out
              obtain ⟨rb2, ro2, rfl, cx⟩ := (HRow.out.stay (kpB hBq.out)).at (k := q) (by rw [HL3.out]; exact hql)
              have HF : Hid (dirF row j (q + 1) = if row[q]'(by rw [HL3.out]; exact hql) = (j : Int) then (dirF row j q).mkEither (.letter q) else dirF row j q) := Lib.hid (by
                show (if row.getD q 0 = (j : Int) then _ else _) = _
                rw [List.getD_eq_getElem?_getD, List.getElem?_eq_getElem (by rw [HL3.out]; exact hql)]; rfl)
              generalize row[q]'(by rw [HL3.out]; exact hql) = x at *
              by_cases hx : x = (j : Int)
              · subst hx
                rw [if_pos rfl] at HF
                have hlen := dirF_len row j q
                obtain ⟨Y, hY⟩ : ∃ Y, Y = wr.alloc (.cells #[.int .i64 3, .int .i64 q] 67) := ⟨_, rfl⟩
                have hbY : Below wr.heap.size wr Y := by rw [hY]; exact (Below.refl _ _).alloc (Nat.le_refl _) _
                have HO : Hid (OwnP Y wr.heap.size (.slice (some ⟨wr.heap.size, 0, none⟩) 1 1) [(3, (q : Int))]) := Lib.hid (by rw [hY]; exact ownLit (n := 1) [.int .i64 3, .int .i64 q] (Nat.le_refl _) (by omega) rfl)
                have HPL : Hid (PR Y _ (.letter q)) := Lib.hid (OwnP.pr (t := .letter q) HO.out ⟨by omega, by omega⟩)
                have HPY := Lib.hid (hPq.out.stay hbY)
                have HBY := Lib.hid (hBq.out.trans (hbY.mono hBq.out.size))
                have HY := Lib.hid hY
                have hR := dirF_len row j (q + 1)
                have HL5 : Hid (L5 5 0 (dirF row j q).flat (Re.letter q).flat ((dirF row j q).mkEither (.letter q))) := Lib.hid ⟨mkEither_wf HPY.out.1 HPL.out.1, .inr (.inl ⟨rfl, rfl, _, _, HPY.out.1, HPL.out.1, rfl, rfl, rfl⟩)⟩
                have HLL : Hid ((dirF row j q).flat.length + (Re.letter q).flat.length ≤ 1000000) := Lib.hid (by have h1 : (Re.letter q).flat.length = 1 := rfl; unfold Re.len at hlen; omega)
                have HRL : Hid (((dirF row j q).mkEither (.letter q)).len ≤ 1000000) := Lib.hid (by rw [← HF.out]; omega)
                clear hY hbY HO hPq hBq hlen hR
                go_wp2_with fail
                rw [← HY.out]
                refine (l18Op_c 5 _ _ _ HL5.out _ _ Y HPY.out.2 HPL.out.2 HLL.out HRL.out).mono ?_
                rintro e w7 ⟨v7, rfl, hb7, hp7⟩
                have HB7 := Lib.hid (HBY.out.trans (hb7.mono HBY.out.size))
                have HP7 : Hid (PR w7 v7 (dirF row j (q + 1))) := Lib.hid (by rw [HF.out]; exact hp7.out)
                clear hb7 hp7
                go_wp2
                go_roundw
                case rel => exact ⟨q + 1, by omega, by go_num, HP7, HB7⟩
                case measure => simp [intOf]; omega
              · have hne : (x == (j : Int)) = false := by simpa using hx
                rw [if_neg hx] at HF
                have HP7 : Hid (PR wr _ (dirF row j (q + 1))) := Lib.hid (by rw [HF.out]; exact hPq.out)
                clear hPq
                go_wp2
                go_roundw
                case rel => exact ⟨q + 1, by omega, by go_num, HP7, hBq⟩
                case measure => simp [intOf]; omega
            · obtain rfl : q = 3 := by omega
              by_cases hkj : k = j
              · subst hkj
                have hlen := dirF_len row k 3
                obtain ⟨Y, hY⟩ : ∃ Y, Y = wr.alloc (.cells #[.int .i64 2, .int .i64 0] 67) := ⟨_, rfl⟩
                have hbY : Below wr.heap.size wr Y := by rw [hY]; exact (Below.refl _ _).alloc (Nat.le_refl _) _
                have HO : Hid (OwnP Y wr.heap.size (.slice (some ⟨wr.heap.size, 0, none⟩) 1 1) [(2, 0)]) := Lib.hid (by rw [hY]; exact ownLit (n := 1) [.int .i64 2, .int .i64 0] (Nat.le_refl _) (by omega) rfl)
                have HPL : Hid (PR Y _ .empty) := Lib.hid (OwnP.pr (t := .empty) HO.out trivial)
                have HPY := Lib.hid (hPq.out.stay hbY)
                have HBY := Lib.hid (hBq.out.trans (hbY.mono hBq.out.size))
                have HY := Lib.hid hY
                have HL5 : Hid (L5 5 0 (dirF row k 3).flat Re.empty.flat ((dirF row k 3).mkEither .empty)) := Lib.hid ⟨mkEither_wf HPY.out.1 (trivial : Re.empty.wf), .inr (.inl ⟨rfl, rfl, dirF row k 3, .empty, HPY.out.1, (trivial : Re.empty.wf), rfl, rfl, rfl⟩)⟩
                have HLL : Hid ((dirF row k 3).flat.length + Re.empty.flat.length ≤ 1000000) := Lib.hid (by have h1 : Re.empty.flat.length = 1 := rfl; unfold Re.len at hlen; omega)
                have HRL : Hid (((dirF row k 3).mkEither .empty).len ≤ 1000000) := Lib.hid (by have h1 := len_mkEither (dirF row k 3) .empty; have h2 : Re.empty.len = 1 := rfl; omega)
                have HDE : Hid (tabE D2 0 k k = (dirF row k 3).mkEither .empty) := Lib.hid (by show dirE D2 k k = _; unfold dirE; rw [if_pos rfl, HG.out])
                clear hY hbY HO hPq hBq hlen
                go_wp2_with fail
                rw [← HY.out]
                refine (l18Op_c 5 _ _ _ HL5.out _ _ Y HPY.out.2 HPL.out.2 HLL.out HRL.out).mono ?_
                rintro e w7 ⟨v7, rfl, hb7, hp7⟩
                have HB9 := Lib.hid (HBY.out.trans (hb7.mono HBY.out.size))
                have HP9 : Hid (PR w7 v7 (tabE D2 0 k k)) := Lib.hid (by rw [HDE.out]; exact hp7.out)
                clear hb7 hp7
                obtain ⟨a8, n8, x8, rfl⟩ := HP9.out.slX
                have hB9 := Lib.hid (hBk.out.trans (HB9.out.mono (by have := hBk.out.size; have := Hwk.out; omega)))
                have hE9 := Lib.hid (hE.out.stay HB9.out)
                obtain ⟨cs9, ho9, hcs9⟩ := hE9.out
                have Hcs9 := Lib.hid hcs9
                have hown9 : Hid (w7.ownsRow wk 23 1 (.slice (some ⟨g9, 0, none⟩) k c9) k cs9) := Lib.hid (by have := ho9; rw [rowT_len] at this; exact this)
                have hj9 : k ≤ 1000000000 := by omega
                have hbs9 : wk ≤ w7.heap.size := by have := hB9.out.size; have := Hwk.out; omega
                have ho9' := Lib.hid ho9
                clear ho9 hcs9 hE hBk
                go_wp2_with (at_builtin; refine appOneF elPSe (by decide) rfl (.tmp 73) (.tmp 75) rfl wk _ k cs9 [.slice a8 n8 x8] w7 rfl rfl hown9.out rfl (by simp [Value.oneCell']) hj9 hbs9 ?_; intro g8 c8 w8 ho8 hg8' _)
                have hg8 := grownTrans (grownBel ((Below.refl w7.heap.size w7).alloc (Nat.le_refl _) _)) hg8'
                have hE8 : Hid (EvR w8 wk (.slice (some ⟨g8, 0, none⟩) (k + 1) c8) (rowT (tabE D2 0 k) (k + 1))) := Lib.hid (by
                  rw [rowT_succ]
                  exact EvR.app hE9.out HP9.out hg8 (by rw [rowT_len]) ho9'.out Hcs9.out ho8)
                have hB8 := Lib.hid (hB9.out.grown hg8 hbs9 (fun b hb' => (World.ownsRow.lt hown9.out b hb').1))
                go_roundw
                case rel => exact ⟨k + 1, _, _, by omega, by go_num, rfl, hE8, hB8⟩
                case measure => simp [intOf]; omega
              · have hne : ((k : Int) == (j : Int)) = false := by simp; omega
                have HP9 : Hid (PR wr _ (tabE D2 0 k j)) := Lib.hid (by
                  have : tabE D2 0 k j = dirF row j 3 := by show dirE D2 k j = _; unfold dirE; rw [if_neg hkj, HG.out]
                  rw [this]; exact hPq.out)
                have HB9 := hBq
                clear hPq hBq
                have hB9 := Lib.hid (hBk.out.trans (HB9.out.mono (by have := hBk.out.size; have := Hwk.out; omega)))
                have hE9 := Lib.hid (hE.out.stay HB9.out)
                obtain ⟨cs9, ho9, hcs9⟩ := hE9.out
                have Hcs9 := Lib.hid hcs9
                have hown9 : Hid (wr.ownsRow wk 23 1 (.slice (some ⟨g9, 0, none⟩) j c9) j cs9) := Lib.hid (by have := ho9; rw [rowT_len] at this; exact this)
                have hj9 : j ≤ 1000000000 := by omega
                have hbs9 : wk ≤ wr.heap.size := by have := hB9.out.size; have := Hwk.out; omega
                have ho9' := Lib.hid ho9
                clear ho9 hcs9 hE hBk
                go_wp2_with (at_builtin; refine appOneF elPSe (by decide) rfl (.tmp 73) (.tmp 75) rfl wk _ j cs9 [.slice a2 n2 x2] wr rfl rfl hown9.out rfl (by simp [Value.oneCell']) hj9 hbs9 ?_; intro g8 c8 w8 ho8 hg8' _)
                have hg8 := grownTrans (grownBel ((Below.refl wr.heap.size wr).alloc (Nat.le_refl _) _)) hg8'
                have hE8 : Hid (EvR w8 wk (.slice (some ⟨g8, 0, none⟩) (j + 1) c8) (rowT (tabE D2 0 k) (j + 1))) := Lib.hid (by
                  rw [rowT_succ]
                  exact EvR.app hE9.out HP9.out hg8 (by rw [rowT_len]) ho9'.out Hcs9.out ho8)
                have hB8 := Lib.hid (hB9.out.grown hg8 hbs9 (fun b hb' => (World.ownsRow.lt hown9.out b hb').1))
                go_roundw
                case rel => exact ⟨j + 1, _, _, by omega, by go_num, rfl, hE8, hB8⟩
                case measure => simp [intOf]; omega
        · obtain rfl : j = n := by omega
          have hwB : w2.heap.size ≤ wk := by have := hB.out.size; have := Hwk.out; omega
          have hT2 := Lib.hid (hT.out.stay (by have := hBk.out; rw [Hwk.out] at this; exact this))
          have hB2 := Lib.hid (hB.out.trans (hBk.out.mono hwB))
          have hE2 := Lib.hid (hE.out.base hwB)
          have hK2 := Lib.hid (blkBel (by have := hBk.out; rw [Hwk.out] at this; exact this) hK.out)
          have hP2 := Lib.hid (hP.out.stay (by have := hBk.out; rw [Hwk.out] at this; exact this))
          have hown : Hid (wr.ownsRow w2.heap.size 84 1 (.slice (some ⟨gT, 0, none⟩) k cT) k cs) := Lib.hid (by have := hT2.out.own; rw [tabT_len] at this; exact this)
          have hk9 : k ≤ 1000000000 := by omega
          have hbs : w2.heap.size ≤ wr.heap.size := hB2.out.size
          clear hT hB hE hK hP hBk
          go_wp2_with (at_builtin; refine appOneF elExprss (by decide) rfl (.tmp 77) (.tmp 79) rfl w2.heap.size _ k cs [.slice (some ⟨g9, 0, none⟩) j c9] wr rfl rfl hown.out rfl (by simp [Value.oneCell']) hk9 hbs ?_; intro g8 c8 w8 ho8 hg8' _)
          have hg8 := grownTrans (grownBel ((Below.refl wr.heap.size wr).alloc (Nat.le_refl _) _)) hg8'
          have hT8 : Hid (EtR w8 w2.heap.size (.slice (some ⟨g8, 0, none⟩) (k + 1) c8) (tabT (tabE D2 0) j (k + 1)) (cs ++ [.slice (some ⟨g9, 0, none⟩) j c9])) := Lib.hid (by
            rw [tabT_succ]
            exact EtR.add hT2.out hE2.out hg8 (by rw [tabT_len]; exact ho8))
          have hB8 := Lib.hid (hB2.out.grown hg8 hbs (fun b hb' => (World.ownsRow.lt hown.out b hb').1))
          have hK8 := Lib.hid (blkGrow hg8 hK2.out (fun e => ownNe hown.out hK2.out (by decide) e.symm))
          have hP8 := Lib.hid (hP2.out.gw hg8 (by rintro c hc ⟨cs', fz, e'⟩; exact ownNe hown.out e' (by decide) hc))
          go_roundw
          case rel => exact ⟨k + 1, _, _, _, by omega, by go_num, rfl, hT8, hB8, hK8, hP8⟩
          case measure => simp [intOf]; omega
    · obtain rfl : k = n := by omega
      clear hlt hk
      go_wp2_with fail
      go_loopw [7, 13, 14, 15, 16, 17, 18, 19, 20] (fun v i _ _ _ _ _ _ _ wr => ∃ (K gT cT : Nat) (cs : List Value), K ≤ k ∧ i = .int .i64 K ∧ v = .slice (some ⟨gT, 0, none⟩) k cT ∧ Hid (EtR wr w2.heap.size v (tabT (tabE D2 K) k k) cs) ∧ Hid (Below w2.heap.size w2 wr) ∧
          Hid (wr.heap[w2.heap.size]? = some (.cells #[.slice aN k cN, .slice aE D2.2.length cE] 52 (0, 0))) ∧ Hid (PR wr (.slice (some ⟨w2.heap.size + 1, 0, none⟩) 1 1) .none) ∧ Hid (∀ k', k' < K → ∀ i j, i < k → j < k → fitE D2 k' i j)) (fun _ i _ _ _ _ _ _ _ _ => k - (intOf i).toNat)
      case atStart => exact ⟨0, gT, cT, cs, by omega, rfl, rfl, hT, hB, hK, hP, Lib.hid (fun k' h => by omega)⟩
      case round =>
        clear hT hB hK hP
        obtain ⟨K, gT, cT, cs, hKk, rfl, rfl, hT, hB, hK, hP, hF⟩ := hrel
        by_cases hlt : K < k
        · have hKI : (K : Int) < (k : Int) := by omega
          obtain ⟨w3, hw3⟩ : ∃ w3, w3 = wr := ⟨_, rfl⟩
          subst hw3
          obtain ⟨wk, hwk⟩ : ∃ x, x = w3.heap.size := ⟨_, rfl⟩
          have hE0 : Hid (EtR (w3.alloc (.cells #[] 84)) wk (.slice (some ⟨w3.heap.size, 0, none⟩) 0 0) (tabT (tabE D2 (K + 1)) k 0) []) := Lib.hid ⟨ownLit (n := 0) [] (by omega) (by omega) rfl, fun i hi => absurd hi (by simp [tabT])⟩
          have hBW0 : Hid (Below wk w3 (w3.alloc (.cells #[] 84))) := Lib.hid ((Below.refl _ _).alloc (by omega) _)
          have Hwk := Lib.hid hwk
          clear hwk
          go_wp2_with fail
          go_loopw [14, 15, 16, 17, 18, 19, 20] (fun v i _ _ _ _ _ wz => ∃ (i0 g9 c9 : Nat) (cs9 : List Value), i0 ≤ k ∧ i = .int .i64 i0 ∧ v = .slice (some ⟨g9, 0, none⟩) i0 c9 ∧ Hid (EtR wz wk v (tabT (tabE D2 (K + 1)) k i0) cs9) ∧ Hid (Below wk w3 wz) ∧ Hid (∀ i j, i < i0 → j < k → fitE D2 K i j)) (fun _ i _ _ _ _ _ _ => k - (intOf i).toNat)
          case atStart => exact ⟨0, _, _, [], by omega, rfl, rfl, hE0, hBW0, Lib.hid (fun i j h => by omega)⟩
          case round =>
            clear hE0 hBW0
            obtain ⟨i0, g9, c9, cs9, hi0, rfl, rfl, hE, hBk, hF2⟩ := hrel
            by_cases hil : i0 < k
            · have hiI : (i0 : Int) < (k : Int) := by omega
              obtain ⟨w5, hw5⟩ : ∃ w5, w5 = wr := ⟨_, rfl⟩
              subst hw5
              obtain ⟨wj, hwj⟩ : ∃ x, x = w5.heap.size := ⟨_, rfl⟩
              have hR0 : Hid (EvR (w5.alloc (.cells #[] 23)) wj (.slice (some ⟨w5.heap.size, 0, none⟩) 0 0) (rowT (tabE D2 (K + 1) i0) 0)) := Lib.hid ⟨[], ownLit (n := 0) [] (by omega) (by omega) rfl, fun i hi => absurd hi (by simp [rowT])⟩
              have hBR0 : Hid (Below wj w5 (w5.alloc (.cells #[] 23))) := Lib.hid ((Below.refl _ _).alloc (by omega) _)
              have Hwj := Lib.hid hwj
              clear hwj
              have hb35 := hBk.out
              rw [Hwk.out] at hb35
              have hT5 := Lib.hid (hT.out.stay hb35)
              have hB5 := Lib.hid (hB.out.trans (hb35.mono hB.out.size))
              have HLn : Hid (∀ i j, i < k → j < k → (tabE D2 K i j).len ≤ 60) := Lib.hid (fun i j hi hj => tabE_len hF.out hi hj)
              have hkw : wk ≤ wj := by have := hBk.out.size; have := Hwk.out; have := Hwj.out; omega
              have h0k : 0 < k := by omega
              clear hb35
              go_wp2_with fail
              go_loopw [16, 17, 18, 19, 20] (fun v i _ _ _ wz => ∃ (j g6 c6 : Nat), j ≤ k ∧ i = .int .i64 j ∧ v = .slice (some ⟨g6, 0, none⟩) j c6 ∧ Hid (EvR wz wj v (rowT (tabE D2 (K + 1) i0) j)) ∧ Hid (Below wj w5 wz) ∧ Hid (∀ j', j' < j → fitE D2 K i0 j')) (fun _ i _ _ _ _ => k - (intOf i).toNat)
              case atStart => exact ⟨0, _, _, by omega, rfl, rfl, hR0, hBR0, Lib.hid (fun j h => by omega)⟩
              case round =>
                clear hR0 hBR0
                obtain ⟨j, g6, c6, hj, rfl, rfl, hR, hBR, hF3⟩ := hrel
                by_cases hjl : j < k
                · have hjI : (j : Int) < (k : Int) := by omega
                  obtain ⟨w6, hw6⟩ : ∃ w6, w6 = wr := ⟨_, rfl⟩
                  subst hw6
                  have hb56 := hBR.out
                  rw [Hwj.out] at hb56
                  have hT6 := Lib.hid (hT5.out.stay hb56)
                  have hB6 := Lib.hid (hB5.out.trans (hb56.mono hB5.out.size))
                  obtain ⟨g1, bk, ok, ck, e1, k1, hrk⟩ := hT6.out.row hlt h0k
                  cases e1
                  obtain ⟨g2, bi, oi, ci, e2, i1, hri⟩ := hT6.out.row hil h0k
                  cases e2
                  obtain ⟨akk, nkk, xkk, kk, hnkk, hPkk⟩ := hrk K hlt
                  obtain ⟨akj, nkj, xkj, kj, hnkj, hPkj⟩ := hrk j hjl
                  obtain ⟨aik, nik, xik, ik, hnik, hPik⟩ := hri K hlt
                  obtain ⟨aij, nij, xij, ij, hnij, hPij⟩ := hri j hjl
                  have HPkj := Lib.hid hPkj; have HPik := Lib.hid hPik; have HPij := Lib.hid hPij
                  have HLs := Lib.hid (lenWay HLn.out hlt hil hjl)
                  have HL4 := Lib.hid (And.intro (HLn.out i0 K hil hlt) (And.intro (HLn.out K K hlt hlt) (And.intro (HLn.out K j hlt hjl) (HLn.out i0 j hil hjl))))
                  obtain ⟨Y, hY⟩ : ∃ Y, Y = w6.alloc (.cells #[] 67) := ⟨_, rfl⟩
                  have hbY : Below w6.heap.size w6 Y := by rw [hY]; exact (Below.refl _ _).alloc (Nat.le_refl _) _
                  have HPE : Hid (PL0 Y (.slice (some ⟨w6.heap.size, 0, none⟩) 0 0) []) := Lib.hid (OwnP.pl0 (base := w6.heap.size) (by rw [hY]; exact ownLit (n := 0) [] (Nat.le_refl _) (by omega) rfl))
                  have HPKY := Lib.hid (hPkk.stay hbY)
                  have HbY := Lib.hid hbY
                  have HY := Lib.hid hY
                  have Hij := Lib.hid (And.intro i1 ij)
                  have HK6 : Hid (w6.cell? ⟨gT, i0, none⟩ = some (.slice (some ⟨bi, oi, none⟩) k ci) ∧ w6.cell? ⟨bi, oi + K, none⟩ = some (.slice aik nik xik) ∧ w6.cell? ⟨gT, K, none⟩ = some (.slice (some ⟨bk, ok, none⟩) k ck) ∧ w6.cell? ⟨bk, ok + j, none⟩ = some (.slice akj nkj xkj)) := Lib.hid ⟨i1, ik, k1, kj⟩
                  clear hri hrk hnkk hnkj hnik hnij hPkk hPkj hPik hPij hY hbY hb56 i1 ij ik kj
                  go_wp2_with fail
                  rw [← HY.out]
                  refine (opS_c (tabE D2 K K K) _ rfl _ _ Y HPKY.out HPE.out (by have := HL4.out; omega)).mono ?_
                  rintro e w7 ⟨v7, rfl, hb7, hp7⟩
                  have HB7 := Lib.hid (HbY.out.trans (hb7.mono HbY.out.size))
                  obtain ⟨a7, n7, x7, rfl⟩ := hp7.out.slX
                  have hb67 := HB7.out.drew
                  have HD7 := Lib.hid (hp7.out.stay (Below.refl _ _).drew)
                  have HDik := Lib.hid (HPik.out.stay hb67)
                  have HDkj := Lib.hid (HPkj.out.stay hb67)
                  have HDij := Lib.hid (HPij.out.stay hb67)
                  have KD : Hid (w7.drew.cell? ⟨gT, i0, none⟩ = some (.slice (some ⟨bi, oi, none⟩) k ci) ∧ w7.drew.cell? ⟨bi, oi + K, none⟩ = some (.slice aik nik xik) ∧ w7.drew.cell? ⟨gT, K, none⟩ = some (.slice (some ⟨bk, ok, none⟩) k ck) ∧ w7.drew.cell? ⟨bk, ok + j, none⟩ = some (.slice akj nkj xkj)) := Lib.hid ⟨kpB (S := fun _ => True) hb67 _ _ trivial HK6.out.1, kpB (S := fun _ => True) hb67 _ _ trivial HK6.out.2.1, kpB (S := fun _ => True) hb67 _ _ trivial HK6.out.2.2.1, kpB (S := fun _ => True) hb67 _ _ trivial HK6.out.2.2.2⟩
                  have KI : Hid (w7.drew.cell? ⟨gT, i0, none⟩ = some (.slice (some ⟨bi, oi, none⟩) k ci) ∧ w7.drew.cell? ⟨bi, oi + j, none⟩ = some (.slice aij nij xij)) := Lib.hid ⟨kpB (S := fun _ => True) hb67 _ _ trivial Hij.out.1, kpB (S := fun _ => True) hb67 _ _ trivial Hij.out.2⟩
                  have HL1 : Hid ((tabE D2 K i0 K).len + (tabE D2 K K K).mkStar.len ≤ 100000) := Lib.hid (by have := HL4.out; have := HLs.out; omega)
                  have HL2 : Hid (((tabE D2 K i0 K).mkJoin (tabE D2 K K K).mkStar).len + (tabE D2 K K j).len ≤ 100000) := Lib.hid (by have := HL4.out; have := HLs.out; omega)
                  have HL3 : Hid ((tabE D2 K i0 j).len + (wayE (tabE D2 K) K i0 j).len ≤ 100000) := Lib.hid (by have := HL4.out; have := HLs.out; omega)
                  have HBd := Lib.hid hb67
                  clear hb67 hb7 hp7 HK6 Hij k1 kk HPKY HPE HPik HPkj HPij HbY HY
                  go_wp2_with fail
                  go_region_held3 (fun w' => w'.cell? ⟨gT, i0, none⟩ = some (.slice (some ⟨bi, oi, none⟩) k ci) ∧ w'.cell? ⟨bi, oi + K, none⟩ = some (.slice aik nik xik) ∧ w'.cell? ⟨gT, K, none⟩ = some (.slice (some ⟨bk, ok, none⟩) k ck) ∧ w'.cell? ⟨bk, ok + j, none⟩ = some (.slice akj nkj xkj))
                    (first | exact KD.out | exact ⟨kpB (S := fun _ => True) hb8 _ _ trivial KD.out.1, kpB (S := fun _ => True) hb8 _ _ trivial KD.out.2.1, kpB (S := fun _ => True) hb8 _ _ trivial KD.out.2.2.1, kpB (S := fun _ => True) hb8 _ _ trivial KD.out.2.2.2⟩ | exact ⟨kpB (S := fun _ => True) hb9 _ _ trivial KD.out.1, kpB (S := fun _ => True) hb9 _ _ trivial KD.out.2.1, kpB (S := fun _ => True) hb9 _ _ trivial KD.out.2.2.1, kpB (S := fun _ => True) hb9 _ _ trivial KD.out.2.2.2⟩)
                    (first
                      | (go_at_call 65
                         (with_reducible refine (opJ_c (tabE D2 K i0 K) (tabE D2 K K K).mkStar _ rfl _ _ w7.drew HDik.out HD7.out HL1.out).mono ?_)
                         rintro e w8 ⟨v8, rfl, hb8, hp8⟩
                         obtain ⟨a8, n8, x8, rfl⟩ := hp8.out.slX)
                      | (go_at_call 65
                         (with_reducible refine (opJ_c ((tabE D2 K i0 K).mkJoin (tabE D2 K K K).mkStar) (tabE D2 K K j) (wayE (tabE D2 K) K i0 j) (wayE_eq _ _ _ _) _ _ w8 hp8.out (HDkj.out.stay hb8) HL2.out).mono ?_)
                         rintro e w9 ⟨v9, rfl, hb9', hp9⟩
                         have hb9 := hb8.trans (hb9'.mono hb8.size)
                         obtain ⟨a9, n9, x9, rfl, hn9'⟩ := hp9.out.slN
                         have hn9 := Lib.hid hn9'
                         clear hn9'))
                  have HN9 : Hid (n9 = (wayE (tabE D2 K) K i0 j).len) := hn9
                  have HP9 := Lib.hid hp9.out
                  have HDij9 := Lib.hid (HDij.out.stay hb9)
                  have j1 := kpB (S := fun _ => True) hb9 _ _ trivial KI.out.1
                  have j2 := kpB (S := fun _ => True) hb9 _ _ trivial KI.out.2
                  have HB9 := Lib.hid (HBd.out.trans (hb9.mono HBd.out.size))
                  clear hn9 hp9 hb8 hb9 hb9' hp8 KD KI HDik HDkj HDij HD7 HBd HB7
                  go_wp2_with fail
                  refine (opE_c (tabE D2 K i0 j) (wayE (tabE D2 K) K i0 j) (tabE D2 (K + 1) i0 j) (tabE_succ _ _ _ _) _ _ w9 HDij9.out HP9.out HL3.out).mono ?_
                  rintro e w10 ⟨v10, rfl, hb10, hp10⟩
                  obtain ⟨a10, n10, x10, rfl, hn10⟩ := hp10.out.slN
                  have HN10 := Lib.hid hn10
                  have HP10 := Lib.hid hp10.out
                  have HB10 := Lib.hid (HB9.out.trans (hb10.mono HB9.out.size))
                  clear hn10 hp10 hb10 j1 j2 HDij9 HB9
                  have HBR10 : Hid (Below wj w5 w10) := Lib.hid (hBR.out.trans (HB10.out.mono (by have := hBR.out.size; have := Hwj.out; omega)))
                  have HBa : Hid (Below w.heap.size w w10) := Lib.hid (HB2.out.trans ((hB6.out.trans (HB10.out.mono hB6.out.size)).mono HB2.out.size))
                  rcases Nat.lt_or_ge 60 n10 with hbig | hle
                  · have HA : Hid (o = none) := Lib.hid (HOo.out.trans <| ansE_fit HN.out hlt hil hjl fun h => by have := h.2; have := HN10.out; omega)
                    have HPn : Hid (PL0 (w10.alloc (.cells #[] 67)) (.slice (some ⟨w10.heap.size, 0, none⟩) 0 0) []) := Lib.hid (OwnP.pl0 (base := w10.heap.size) (ownLit (n := 0) [] (Nat.le_refl _) (by omega) rfl))
                    have HBn := Lib.hid ((HBa.out).trans ((Below.alloc (Below.refl w10.heap.size w10) (Nat.le_refl _) (.cells #[] 67)).mono HBa.out.size))
                    go_wp2
                    exact bodyPost_ret (results_tmp2 (t := 2) (u := 3) rfl _ _ _) rfl (RXo.no HBn.out HPn.out HA.out)
                  · rcases Nat.lt_or_ge 60 n9 with hbig2 | hle2
                    · have HA : Hid (o = none) := Lib.hid (HOo.out.trans <| ansE_fit HN.out hlt hil hjl fun h => by have := h.1; have := HN9.out; omega)
                      have HPn : Hid (PL0 (w10.alloc (.cells #[] 67)) (.slice (some ⟨w10.heap.size, 0, none⟩) 0 0) []) := Lib.hid (OwnP.pl0 (base := w10.heap.size) (ownLit (n := 0) [] (Nat.le_refl _) (by omega) rfl))
                      have HBn := Lib.hid ((HBa.out).trans ((Below.alloc (Below.refl w10.heap.size w10) (Nat.le_refl _) (.cells #[] 67)).mono HBa.out.size))
                      go_wp2
                      exact bodyPost_ret (results_tmp2 (t := 2) (u := 3) rfl _ _ _) rfl (RXo.no HBn.out HPn.out HA.out)
                    · have HF9 : Hid (∀ j', j' < j + 1 → fitE D2 K i0 j') := Lib.hid (fun j' h => by
                        by_cases h' : j' < j
                        · exact hF3.out j' h'
                        · obtain rfl : j' = j := by omega
                          exact ⟨by have := HN9.out; omega, by have := HN10.out; omega⟩)
                      have hE9 := Lib.hid (hR.out.stay HB10.out)
                      obtain ⟨csr, hor, hcr⟩ := hE9.out
                      have Hcr := Lib.hid hcr
                      have hown9 : Hid (w10.ownsRow wj 23 1 (.slice (some ⟨g6, 0, none⟩) j c6) j csr) := Lib.hid (by have := hor; rw [rowT_len] at this; exact this)
                      have hj9 : j ≤ 1000000000 := by omega
                      have hbs9 : wj ≤ w10.heap.size := by have := HBR10.out.size; have := Hwj.out; omega
                      have hor' := Lib.hid hor
                      clear hor hcr hR hBR
                      go_wp2_with (at_builtin; refine appOneF elPSe (by decide) rfl (.tmp 142) (.tmp 144) rfl wj _ j csr [.slice a10 n10 x10] w10 rfl rfl hown9.out rfl (by simp [Value.oneCell']) hj9 hbs9 ?_; intro g8 c8 w11 ho8 hg8' _)
                      have hg8 := grownTrans (grownBel ((Below.refl w10.heap.size w10).alloc (Nat.le_refl _) _)) hg8'
                      have hE8 : Hid (EvR w11 wj (.slice (some ⟨g8, 0, none⟩) (j + 1) c8) (rowT (tabE D2 (K + 1) i0) (j + 1))) := Lib.hid (by
                        rw [rowT_succ]
                        exact EvR.app hE9.out HP10.out hg8 (by rw [rowT_len]) hor'.out Hcr.out ho8)
                      have hB8 := Lib.hid (HBR10.out.grown hg8 hbs9 (fun b hb' => (World.ownsRow.lt hown9.out b hb').1))
                      go_roundw
                      case rel => exact ⟨j + 1, _, _, by omega, by go_num, rfl, hE8, hB8, HF9⟩
                      case measure => simp [intOf]; omega
                · have hjk : j = k := by omega
                  subst hjk
                  have hb56 := hBR.out
                  rw [Hwj.out] at hb56
                  have hT2 := Lib.hid (hE.out.stay hb56)
                  have hB2 := Lib.hid (hBk.out.trans (hBR.out.mono hkw))
                  have hE2 := Lib.hid (hR.out.base hkw)
                  have hown : Hid (wr.ownsRow wk 84 1 (.slice (some ⟨g9, 0, none⟩) i0 c9) i0 cs9) := Lib.hid (by have := hT2.out.own; rw [tabT_len] at this; exact this)
                  have hk9 : i0 ≤ 1000000000 := by omega
                  have hbs : wk ≤ wr.heap.size := by have := hB2.out.size; have := Hwk.out; omega
                  have HF9 : Hid (∀ i j', i < i0 + 1 → j' < j → fitE D2 K i j') := Lib.hid (fun i j' hi hj' => by
                    by_cases h' : i < i0
                    · exact hF2.out i j' h' hj'
                    · obtain rfl : i = i0 := by omega
                      exact hF3.out j' hj')
                  clear hb56 hT hE hB hK hP hBk hBR
                  go_wp2_with (at_builtin; refine appOneF elExprss (by decide) rfl (.tmp 146) (.tmp 148) rfl wk _ i0 cs9 [.slice (some ⟨g6, 0, none⟩) j c6] wr rfl rfl hown.out rfl (by simp [Value.oneCell']) hk9 hbs ?_; intro g8 c8 w8 ho8 hg8' _)
                  have hg8 := grownTrans (grownBel ((Below.refl wr.heap.size wr).alloc (Nat.le_refl _) _)) hg8'
                  have hT8 : Hid (EtR w8 wk (.slice (some ⟨g8, 0, none⟩) (i0 + 1) c8) (tabT (tabE D2 (K + 1)) j (i0 + 1)) (cs9 ++ [.slice (some ⟨g6, 0, none⟩) j c6])) := Lib.hid (by
                    rw [tabT_succ]
                    exact EtR.add hT2.out hE2.out hg8 (by rw [tabT_len]; exact ho8))
                  have hB8 := Lib.hid (hB2.out.grown hg8 hbs (fun b hb' => (World.ownsRow.lt hown.out b hb').1))
                  go_roundw
                  case rel => exact ⟨i0 + 1, _, _, _, by omega, by go_num, rfl, hT8, hB8, HF9⟩
                  case measure => simp [intOf]; omega
            · have hik : i0 = k := by omega
              subst hik
              have hb3 := hBk.out
              rw [Hwk.out] at hb3
              have hwB : w2.heap.size ≤ wk := by have := hB.out.size; have := Hwk.out; omega
              have hT8 := Lib.hid (hE.out.base hwB)
              have hB8 := Lib.hid (hB.out.trans (hb3.mono hB.out.size))
              have hK8 := Lib.hid (blkBel hb3 hK.out)
              have hP8 := Lib.hid (hP.out.stay hb3)
              have hF8 : Hid (∀ k', k' < K + 1 → ∀ i j, i < i0 → j < i0 → fitE D2 k' i j) := Lib.hid (fun k' hk' i j hi hj => by
                by_cases h : k' < K
                · exact hF.out k' h i j hi hj
                · obtain rfl : k' = K := by omega
                  exact hF2.out i j hi hj)
              clear hT hB hK hP hF hE hBk hF2 hb3
              go_wp2_with fail
              go_roundw
              case rel => exact ⟨K + 1, _, _, _, by omega, by go_num, rfl, hT8, hB8, hK8, hP8, hF8⟩
              case measure => simp [intOf]; omega
        · obtain rfl : K = k := by omega
          have hKk' : K ≤ K := Nat.le_refl K
          have HLn : Hid (∀ i j, i < K → j < K → (tabE D2 K i j).len ≤ 60) := Lib.hid (fun i j hi hj => tabE_len hF.out hi hj)
          obtain ⟨w3, hw3⟩ : ∃ w3, w3 = wr := ⟨_, rfl⟩
          subst hw3
          have h0k : 0 < K := hn1
          have hPO : Hid (PR w3 (.slice (some ⟨w2.heap.size + 1, 0, none⟩) 1 1) (outE D2 K 0)) := hP
          have HBe : Hid (K = D2.2.length) := Lib.hid (by rw [HN.out]; exact HC.out.2.1.symm)
          have HBw := Lib.hid (HB2.out.trans (hB.out.mono HB2.out.size))
          go_wp2_with fail
          go_loopw [21, 22] (fun v c wz => ∃ (q : Nat), q ≤ K ∧ c = .int .i64 q ∧ Hid (PR wz v (outE D2 K q)) ∧ Hid (Below w3.heap.size w3 wz)) (fun _ c _ => K - (intOf c).toNat)
          case atStart => exact ⟨0, by omega, rfl, hPO, Lib.hid (Below.refl _ _)⟩
          case round =>
            clear hPO
            obtain ⟨q, hq, rfl, hPq, hBq⟩ := hrel
            obtain ⟨a2, n2, x2, rfl, hn2⟩ := hPq.out.slN
            have HN2 := Lib.hid hn2
            clear hn2
            by_cases hql : q < K
            · have hqI : (q : Int) < (K : Int) := by omega
              obtain ⟨d0, d1, _, _⟩ := blk2 (blkBel hBq.out hK.out)
              have hqE : q < D2.2.length := by rw [← HBe.out]; exact hql
              have hqEI : (q : Int) < (D2.2.length : Int) := by omega
              obtain ⟨rbE, roE, e0, hcE⟩ := ((HR2.out.stay (kpB (hB.out.trans (hBq.out.mono hB.out.size)))).2).at hqE
              subst e0
              have HF : Hid (outE D2 K (q + 1) = if D2.2[q] then (outE D2 K q).mkEither (tabE D2 K 0 q) else outE D2 K q) := Lib.hid (by
                show (if D2.2.getD q false then _ else _) = _
                rw [List.getD_eq_getElem?_getD, List.getElem?_eq_getElem hqE]; rfl)
              generalize D2.2[q] = x at *
              cases x
              · have HP7 : Hid (PR wr (.slice a2 n2 x2) (outE D2 K (q + 1))) := Lib.hid (by rw [HF.out]; exact hPq.out)
                clear hPq
                go_wp2
                go_roundw
                case rel => exact ⟨q + 1, by omega, by go_num, HP7, hBq⟩
                case measure => simp [intOf]; omega
              · have hT6 := Lib.hid (hT.out.stay hBq.out)
                obtain ⟨g1, b0, o0, c0, e1, i1, hri⟩ := hT6.out.row h0k h0k
                cases e1
                obtain ⟨aq, nq, xq, iq, hnq, hPt⟩ := hri q hql
                have HPt := Lib.hid hPt
                have hl1 := outE_len HLn.out q (by omega)
                have hl2 := HLn.out 0 q h0k hql
                have HL : Hid ((outE D2 K q).len + (tabE D2 K 0 q).len ≤ 100000) := Lib.hid (by omega)
                clear hri hnq hPt hl1 hl2
                go_wp2_with fail
                refine (opE_c (outE D2 K q) (tabE D2 K 0 q) (outE D2 K (q + 1)) HF.out _ _ wr hPq.out HPt.out HL.out).mono ?_
                rintro e w7 ⟨v7, rfl, hb7, hp7⟩
                have HB7 := Lib.hid (hBq.out.trans (hb7.mono hBq.out.size))
                have HP7 := Lib.hid hp7.out
                clear hb7 hp7
                go_wp2
                go_roundw
                case rel => exact ⟨q + 1, by omega, by go_num, HP7, HB7⟩
                case measure => simp [intOf]; omega
            · have hqk : q = K := by omega
              subst hqk
              have HBa := Lib.hid (HBw.out.trans (hBq.out.mono HBw.out.size))
              have HFit : Hid (fitsE D2 q) := Lib.hid (fun k' i j hk hi hj => hF.out k' hk i j hi hj)
              rcases Nat.lt_or_ge 60 n2 with hbig | hle
              · have HA : Hid (o = none) := Lib.hid (HOo.out.trans <| ansE_long HN.out (by have := HN2.out; omega))
                have HPn : Hid (PL0 (wr.alloc (.cells #[] 67)) (.slice (some ⟨wr.heap.size, 0, none⟩) 0 0) []) := Lib.hid (OwnP.pl0 (base := wr.heap.size) (ownLit (n := 0) [] (Nat.le_refl _) (by omega) rfl))
                have HBn := Lib.hid ((HBa.out).trans ((Below.alloc (Below.refl wr.heap.size wr) (Nat.le_refl _) (.cells #[] 67)).mono HBa.out.size))
                go_wp2
                exact bodyPost_ret (results_tmp2 (t := 2) (u := 3) rfl _ _ _) rfl (RXo.no HBn.out HPn.out HA.out)
              · have HA : Hid (o = some (outE D2 q q)) := Lib.hid (HOo.out.trans <| ansE_some HN.out HFit.out (by have := HN2.out; omega))
                go_wp2
                exact bodyPost_ret (results_tmp2 (t := 2) (u := 3) rfl _ _ _) rfl (RXo.yes HBa.out hPq.out HA.out)
theorem RXo.rd {w w' : World} {o : Option Re} {e : Ending} (h : RXo w o e w') : RPr w (o.isSome = true) (ansQ o) e w' := by
  obtain ⟨v, b, he, hb, h1, h2, h3⟩ := h
  refine ⟨v, b, he, hb, Lib.hid (by rw [h1.out]), ?_⟩
  cases o with
  | none => exact h3.out rfl
  | some t => exact (h2.out t rfl).2
set_option maxHeartbeats 1000000 in
theorem sExprOf_no (vn ve : Value) (D : DfaD) (w : World) (h : DfaR S w vn ve D) (hD : ¬ okD D) : Calls Try.prog 26 #[.agg #[vn, ve]] w (RXo w none) := by
  obtain ⟨a, ca, b, d, rfl, rfl, hn, hm⟩ := h.shapes
  obtain ⟨W, hW⟩ : ∃ W, W = w.alloc (.cells #[.slice a D.1.length ca, .slice b D.2.length d] 52) := ⟨_, rfl⟩
  have Hb0 : Hid (Below w.heap.size w W) := by rw [hW]; exact (Below.refl _ _).alloc (Nat.le_refl _) _
  have H := Lib.hid (h.stay (kpB Hb0.out)); clear h
  have HW := Lib.hid hW; clear hW
  have HD := Lib.hid hD
  clear hD
  go_enter Try.func26, Try.ntmps26
  go_wp2_with fail
  rw [← HW.out]
  refine (sDfaValid_c _ _ D W H.out).mono ?_
  rintro e w1 ⟨b1, rfl, hb1, hv⟩
  cases b1
  rotate_left
  · exact (HD.out (hbT hv)).elim
  have HB1 := Lib.hid (Hb0.out.trans (hb1.mono Hb0.out.size))
  have HPn : Hid (PL0 (w1.alloc (.cells #[] 67)) (.slice (some ⟨w1.heap.size, 0, none⟩) 0 0) []) := Lib.hid (OwnP.pl0 (base := w1.heap.size) (ownLit (n := 0) [] (Nat.le_refl _) (by omega) rfl))
  have HBn := Lib.hid ((HB1.out).trans ((Below.alloc (Below.refl w1.heap.size w1) (Nat.le_refl _) (.cells #[] 67)).mono HB1.out.size))
  clear hv hb1 H Hb0 HW
  go_wp2
  exact bodyPost_ret (results_tmp2 (t := 2) (u := 3) rfl _ _ _) rfl (RXo.no HBn.out HPn.out rfl)
theorem sExprOf_c (vn ve : Value) (D : DfaD) (w : World) (h : DfaR S w vn ve D) : Calls Try.prog 26 #[.agg #[vn, ve]] w (RPr w ((ansO D).isSome = true) (ansQ (ansO D))) := by
  by_cases hD : okD D
  · rw [ansO_yes hD]; exact (sExprOf_yes vn ve D w h hD).mono fun _ _ => RXo.rd
  · rw [ansO_no hD]; exact (sExprOf_no vn ve D w h hD).mono fun _ _ => RXo.rd
end Go.Proofs.Ytbcjhiponbfbnaa
