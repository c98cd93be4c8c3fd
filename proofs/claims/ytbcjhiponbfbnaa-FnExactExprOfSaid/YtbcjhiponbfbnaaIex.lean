/- ExprOf: the program's. -/
import Derived.Deep.RegionLaw
import Derived.Deep.RegionHeld3
import Derived.Test.YtbcjhiponbfbnaaEit
import Derived.Test.YtbcjhiponbfbnaaGQ
set_option linter.unusedSimpArgs false
set_option linter.unusedVariables false
set_option linter.unusedSectionVars false
namespace Go.Proofs.Ytbcjhiponbfbnaa
open Go.RowKit
set_option maxRecDepth 100000
variable {S T : Nat → Prop}
/-- An expression and true, in memory of the call's own, or false. -/
def RXi (w : World) (o : Option Re) (e : Ending) (w' : World) : Prop := ∃ (v : Value) (b : Bool), e = .returned (.tuple #[v, .bool b]) ∧ Below w.heap.size w w' ∧ Hid (b = o.isSome) ∧ Hid (∀ t, o = some t → OwnP w' w.heap.size v t.flat) ∧ Hid (∃ a n c, v = .slice a n c)
theorem RXi.no {w w' : World} {o : Option Re} {a : Option Addr} {n c : Nat} (hb : Below w.heap.size w w') (ho : o = none) : RXi w o (.returned (.tuple #[.slice a n c, .bool false])) w' :=
  ⟨_, false, rfl, hb, by rw [ho]; rfl, by rw [ho]; exact nofun, ⟨_, _, _, rfl⟩⟩
theorem RXi.noD {w w' : World} {o : Option Re} {a : Option Addr} {n c : Nat} {x : Bool} (hx : x = false) (hb : Below w.heap.size w w') (ho : o = none) : RXi w o (.returned (.tuple #[.slice a n c, .bool x])) w' := by subst hx; exact RXi.no hb ho
theorem RXi.yes {w w' : World} {o : Option Re} {a : Option Addr} {n c : Nat} {t : Re} (hb : Below w.heap.size w w') (hp : OwnP w' w.heap.size (.slice a n c) t.flat) (ho : o = some t) : RXi w o (.returned (.tuple #[.slice a n c, .bool true])) w' :=
  ⟨_, true, rfl, hb, by rw [ho]; rfl, by rw [ho]; exact fun _ h => by cases h; exact hp, ⟨_, _, _, rfl⟩⟩
theorem RXi.yesD {w w' : World} {o : Option Re} {a : Option Addr} {n c : Nat} {t : Re} {x : Bool} (hx : x = true) (hb : Below w.heap.size w w') (hp : OwnP w' w.heap.size (.slice a n c) t.flat) (ho : o = some t) : RXi w o (.returned (.tuple #[.slice a n c, .bool x])) w' := by subst hx; exact RXi.yes hb hp ho
set_option maxHeartbeats 16000000 in
theorem exprOf_c (vn ve : Value) (D : DfaD) (w : World) (h : DfaR S w vn ve D) (hD : okD D) : Calls Try.prog 70 #[.agg #[vn, ve]] w (RXi w (ansE D)) := by
  obtain ⟨a, ca, b, d, rfl, rfl, hn, hm⟩ := h.shapes
  obtain ⟨W, hW⟩ : ∃ W, W = w.alloc (.cells #[.slice a D.1.length ca, .slice b D.2.length d] 52) := ⟨_, rfl⟩
  have Hb0 : Hid (Below w.heap.size w W) := by rw [hW]; exact (Below.refl _ _).alloc (Nat.le_refl _) _
  have K0 : Hid (W.heap[w.heap.size]? = some (.cells #[.slice a D.1.length ca, .slice b D.2.length d] 52 (0, 0))) := by rw [hW]; exact blkNew _ _ rfl
  have H := Lib.hid (h.stay (kpB Hb0.out)); clear h
  have HW := Lib.hid hW; clear hW
  have HD := Lib.hid hD
  obtain ⟨o, ho⟩ : ∃ o, o = ansE D := ⟨_, rfl⟩
  rw [← ho]
  have HOo := Lib.hid ho
  clear ho
  have hn40 : D.1.length ≤ 40 := hD.1.2
  have hn1 : 1 ≤ D.1.length := hD.1.1
  have HE2 : Hid (D.2.length = D.1.length) := Lib.hid hD.2.1
  clear hD
  obtain ⟨n, hn⟩ : ∃ n, n = D.1.length := ⟨_, rfl⟩
  have HN := Lib.hid hn
  rw [← hn] at hn40 hn1 K0 H HW HE2 ⊢
  rw [HE2.out] at K0 H HW ⊢
  clear hn hm
  obtain ⟨c0, c1, _, _⟩ := blk2 K0.out
  go_enter Try.func70, Try.ntmps70
  go_wp2_with (at_make; rw [← HW.out]; refine makeRow (α := Unit) (f := fun _ => .slice none 0 0) (x := ()) ezExprs (by decide) rfl (.tmp 20) (.tmp 20) rfl n _ rfl rfl (by omega) ?_; intro w1 hr1 hb1 hz1)
  have HB1 := Lib.hid hb1
  have HT1 : Hid (ItR w1 W.heap.size W.heap.size n (tabE D 0) 0 (List.replicate n (.slice none 0 0))) := Lib.hid (ItR.make (rowOwnE hr1.out (Nat.le_refl _) (by omega)) hb1.size)
  clear c0 c1 hb1 hr1 hz1
  go_wp2_with fail
  go_loopw [23] (fun i wr => ∃ (k : Nat) (cs : List Value), k ≤ n ∧ i = .int .i64 k ∧ Hid (ItR wr W.heap.size W.heap.size n (tabE D 0) k cs) ∧ Hid (Below W.heap.size W wr)) (fun i _ => n - (intOf i).toNat)
  case atStart => exact ⟨0, _, by omega, rfl, HT1, HB1⟩
  case round =>
    clear HT1 HB1
    obtain ⟨k, cs, hk, rfl, hT, hB⟩ := hrel
    by_cases hlt : k < n
    · have hkI : (k : Int) < (n : Int) := by omega
      obtain ⟨w3, hw3⟩ : ∃ w3, w3 = wr := ⟨_, rfl⟩
      subst hw3
      have hP0 : Hid (ItP w3 W.heap.size w3.heap.size W.heap.size n (tabE D 0) k 0 cs) := Lib.hid (hT.out.start hlt)
      obtain ⟨wk, hwk⟩ : ∃ x, x = w3.heap.size := ⟨_, rfl⟩
      rw [← hwk] at hP0
      clear hwk
      go_wp2_with fail
      go_loopw [27] (fun i wz => ∃ (j : Nat) (cs : List Value), j ≤ n ∧ i = .int .i64 j ∧ Hid (ItP wz W.heap.size wk W.heap.size n (tabE D 0) k j cs) ∧ Hid (Below W.heap.size W wz)) (fun i _ => n - (intOf i).toNat)
      case atStart => exact ⟨0, cs, by omega, rfl, hP0, hB⟩
      case round =>
        clear hP0 hT hB
        obtain ⟨j, cs, hj, rfl, hP, hB⟩ := hrel
        by_cases hjl : j < n
        · have hjI : (j : Int) < (n : Int) := by omega
          obtain ⟨w5, hw5⟩ : ∃ w5, w5 = wr := ⟨_, rfl⟩
          subst hw5
          obtain ⟨av, cv, _, hv, _, _⟩ := hP.out.row
          have HV := Lib.hid hv
          have HPD := Lib.hid (hP.out.stay (Below.refl _ _).drew)
          have HBD := Lib.hid hB.out.drew
          have HRD := Lib.hid (H.out.stay (kpB HBD.out))
          obtain ⟨e0, e1, _, _⟩ := blk2 (blkBel HBD.out K0.out)
          have hc := (HPD.out.cell hlt).1
          rw [hv] at hc
          have hDL := dirE_len D k j
          have hkD : k < D.1.length := by rw [← HN.out]; exact hlt
          have hjD : j < D.1.length := by rw [← HN.out]; exact hjl
          have HCall := Lib.hid (direct_c _ _ D k j w5.drew HRD.out HD.out hkD hjD)
          have HC0 := Lib.hid hc
          clear hv hP hB HRD hkD hjD hDL
          go_wp2_with fail
          go_region_law
            (first
             | (go_simp
                (with_reducible refine HCall.out.mono ?_)
                rintro e w6 ⟨v7, rfl, hb6, hp6⟩
                obtain ⟨a7, n7, x7, rfl⟩ := hp6.out.slX
                have HX : Hid (PR w6 (.slice a7 n7 x7) (tabE D 0 k j)) := hp6
                have HP6 := Lib.hid (HPD.out.stay hb6)
                have HB6 := Lib.hid (HBD.out.trans (hb6.mono HBD.out.size))
                have hc6 := kpB (S := fun _ => True) hb6 _ _ trivial HC0.out
                have hc6a : (w6.alloc (.cells #[.slice a7 n7 x7] 23)).cell? ⟨W.heap.size, k, none⟩ = some (.slice av j cv) := kpAlloc (S := fun _ => True) _ _ trivial hc6
                obtain ⟨av', cv', csr, hv', ho6, hcs⟩ := HP6.out.row
                rw [HV.out] at hv'
                cases hv'
                have HO6 := Lib.hid ho6
                have HCs := Lib.hid hcs
                have hz6 : wk ≤ w6.heap.size := HP6.out.sz
                have hz1 : W.heap.size ≤ wk := HP6.out.le
                have hz0 : W.heap.size ≤ w6.heap.size := Nat.le_trans hz1 hz6
                clear hb6 hp6 ho6 hcs)
             | (refine stepAppAt elPSe (by decide) rfl (.tmp 35) (.tmp 40) rfl wk (.slice av j cv) j csr [.slice a7 n7 x7] _ w6.heap.size rfl rfl (HO6.out.alloc _) (by exact blkNew _ _ rfl) rfl (by simp [Value.oneCell']) (by omega) (by simp; omega) ?_
                intro g8 c8 w8 ho8 hg8 hat8
                have hg9 := grownTrans (grownBel ((Below.refl _ _).alloc (Nat.le_refl _) _)) hg8
                obtain ⟨d0, f0⟩ := HP6.out.cellG hlt HV.out HO6.out hg9
                have HP8 := Lib.hid (HP6.out.step hlt HV.out HO6.out HCs.out HX.out hg9 ho8.out)
                have HB8 := Lib.hid (HB6.out.grown hg9 hz0 (fun b hb => Nat.le_trans hz1 (own_ge HO6.out b hb).1))))
          all_goals (
            have HB9 := Lib.hid (HB8.out.setCell (p := ⟨W.heap.size, k, none⟩) (Nat.le_refl _) (.slice (some ⟨g8, 0, none⟩) (j + 1) c8))
            clear d0 f0 hg8 hg9 hat8 ho8 hc6 hc6a HP6 HB6 HO6 HCs HX HB8
            go_wp2
            go_roundw
            case rel => exact ⟨j + 1, _, by omega, by go_num, HP8, HB9⟩
            case measure => simp [intOf]; omega)
        · have hjn : j = n := by omega
          subst hjn
          have HT2 := Lib.hid hP.out.fin
          clear hP
          go_wp2
          go_roundw
          case rel => exact ⟨k + 1, _, by omega, by go_num, HT2, hB⟩
          case measure => simp [intOf]; omega
    · have hkn : k = n := by omega
      subst hkn
      have h0k : 0 < k := hn1
      have HT0 : Hid (EtR wr W.heap.size (.slice (some ⟨W.heap.size, 0, none⟩) k k) (tabT (tabE D 0) k k) cs) := Lib.hid hT.out.full
      clear hT hlt hk
      go_wp2_with fail
      go_loopw [5, 46] (fun v i wr => ∃ (K g5 : Nat) (cs : List Value), K ≤ k ∧ i = .int .i64 K ∧ v = .slice (some ⟨g5, 0, none⟩) k k ∧ Hid (EtR wr W.heap.size v (tabT (tabE D K) k k) cs) ∧ Hid (Below W.heap.size W wr) ∧ Hid (∀ k', k' < K → ∀ i j, i < k → j < k → fitE D k' i j)) (fun _ i _ => k - (intOf i).toNat)
      case atStart => exact ⟨0, _, cs, by omega, rfl, rfl, HT0, hB, Lib.hid (fun k' h => by omega)⟩
      case round =>
        clear HT0 hB
        obtain ⟨K, g5, cs, hKk, rfl, rfl, hT, hB, hF⟩ := hrel
        by_cases hlt : K < k
        · have hKI : (K : Int) < (k : Int) := by omega
          obtain ⟨w3, hw3⟩ : ∃ w3, w3 = wr := ⟨_, rfl⟩
          subst hw3
          go_wp2_with (at_make; refine makeRow (α := Unit) (f := fun _ => .slice none 0 0) (x := ()) ezExprs (by decide) rfl (.tmp 49) (.tmp 49) rfl k _ rfl rfl (by omega) ?_; intro w4 hr4 hb4 hz4)
          have HBk4 := Lib.hid hb4
          have HT4 : Hid (ItR w4 w3.heap.size w3.heap.size k (tabE D (K + 1)) 0 (List.replicate k (.slice none 0 0))) := Lib.hid (ItR.make (rowOwnE hr4.out (Nat.le_refl _) (by omega)) hb4.size)
          have HLn : Hid (∀ i j, i < k → j < k → (tabE D K i j).len ≤ 60) := Lib.hid (fun i j hi hj => tabE_len hF.out hi hj)
          clear hr4 hz4 hb4
          go_wp2_with fail
          go_loopw [52] (fun i wz => ∃ (i0 : Nat) (cs : List Value), i0 ≤ k ∧ i = .int .i64 i0 ∧ Hid (ItR wz w3.heap.size w3.heap.size k (tabE D (K + 1)) i0 cs) ∧ Hid (Below w3.heap.size w3 wz) ∧ Hid (∀ i j, i < i0 → j < k → fitE D K i j)) (fun i _ => k - (intOf i).toNat)
          case atStart => exact ⟨0, _, by omega, rfl, HT4, HBk4, Lib.hid (fun i j h => by omega)⟩
          case round =>
            clear HT4 HBk4
            obtain ⟨i0, cs2, hi0, rfl, hE, hBk, hF2⟩ := hrel
            by_cases hil : i0 < k
            · have hiI : (i0 : Int) < (k : Int) := by omega
              have hP0 : Hid (ItP wr w3.heap.size wr.heap.size w3.heap.size k (tabE D (K + 1)) i0 0 cs2) := Lib.hid (hE.out.start hil)
              obtain ⟨wj, hwj⟩ : ∃ x, x = wr.heap.size := ⟨_, rfl⟩
              rw [← hwj] at hP0
              clear hwj
              go_wp2_with fail
              go_loopw [56] (fun i wz => ∃ (j : Nat) (cs : List Value), j ≤ k ∧ i = .int .i64 j ∧ Hid (ItP wz w3.heap.size wj w3.heap.size k (tabE D (K + 1)) i0 j cs) ∧ Hid (Below w3.heap.size w3 wz) ∧ Hid (∀ j', j' < j → fitE D K i0 j')) (fun i _ => k - (intOf i).toNat)
              case atStart => exact ⟨0, cs2, by omega, rfl, hP0, hBk, Lib.hid (fun j h => by omega)⟩
              case round =>
                clear hP0 hE hBk
                obtain ⟨j, cs2, hj, rfl, hP, hBk, hF3⟩ := hrel
                by_cases hjl : j < k
                · have hjI : (j : Int) < (k : Int) := by omega
                  obtain ⟨w6, hw6⟩ : ∃ w6, w6 = wr := ⟨_, rfl⟩
                  subst hw6
                  have hBD := hBk.out.drew
                  have hTD := Lib.hid (hT.out.stay hBD)
                  obtain ⟨g1, bk, ok, ck, e1, k1, hrk⟩ := hTD.out.row hlt h0k
                  cases e1
                  obtain ⟨g2, bi, oi, ci, e2, i1, hri⟩ := hTD.out.row hil h0k
                  cases e2
                  obtain ⟨akk, nkk, xkk, kk, hnkk, hPkk⟩ := hrk K hlt
                  obtain ⟨akj, nkj, xkj, kj, hnkj, hPkj⟩ := hrk j hjl
                  obtain ⟨aik, nik, xik, ik, hnik, hPik⟩ := hri K hlt
                  obtain ⟨aij, nij, xij, ij, hnij, hPij⟩ := hri j hjl
                  have HDkk := Lib.hid hPkk; have HDkj := Lib.hid hPkj; have HDik := Lib.hid hPik; have HDij := Lib.hid hPij
                  have HLs := Lib.hid (lenWay HLn.out hlt hil hjl)
                  have HL4 := Lib.hid (And.intro (HLn.out i0 K hil hlt) (And.intro (HLn.out K K hlt hlt) (And.intro (HLn.out K j hlt hjl) (HLn.out i0 j hil hjl))))
                  have KD : Hid (w6.drew.cell? ⟨g5, i0, none⟩ = some (.slice (some ⟨bi, oi, none⟩) k ci) ∧ w6.drew.cell? ⟨bi, oi + K, none⟩ = some (.slice aik nik xik) ∧ w6.drew.cell? ⟨g5, K, none⟩ = some (.slice (some ⟨bk, ok, none⟩) k ck) ∧ w6.drew.cell? ⟨bk, ok + K, none⟩ = some (.slice akk nkk xkk) ∧ w6.drew.cell? ⟨bk, ok + j, none⟩ = some (.slice akj nkj xkj)) := Lib.hid ⟨i1, ik, k1, kk, kj⟩
                  have KI : Hid (w6.drew.cell? ⟨g5, i0, none⟩ = some (.slice (some ⟨bi, oi, none⟩) k ci) ∧ w6.drew.cell? ⟨bi, oi + j, none⟩ = some (.slice aij nij xij)) := Lib.hid ⟨i1, ij⟩
                  have HL0 : Hid ((tabE D K K K).len ≤ 1000000) := Lib.hid (by have := HL4.out; omega)
                  have HL1 : Hid ((tabE D K i0 K).len + (tabE D K K K).mkStar.len ≤ 1000000) := Lib.hid (by have := HL4.out; have := HLs.out; omega)
                  have HL2 : Hid (((tabE D K i0 K).mkJoin (tabE D K K K).mkStar).len + (tabE D K K j).len ≤ 1000000) := Lib.hid (by have := HL4.out; have := HLs.out; omega)
                  have HL3 : Hid ((tabE D K i0 j).len + (wayE (tabE D K) K i0 j).len ≤ 1000000) := Lib.hid (by have := HL4.out; have := HLs.out; omega)
                  clear hri hrk hnkk hnkj hnik hnij hPkk hPkj hPik hPij i1 ij ik kj k1 kk hTD hBD
                  go_wp2_with fail
                  go_region_held3 (fun w' => w'.cell? ⟨g5, i0, none⟩ = some (.slice (some ⟨bi, oi, none⟩) k ci) ∧ w'.cell? ⟨bi, oi + K, none⟩ = some (.slice aik nik xik) ∧ w'.cell? ⟨g5, K, none⟩ = some (.slice (some ⟨bk, ok, none⟩) k ck) ∧ w'.cell? ⟨bk, ok + K, none⟩ = some (.slice akk nkk xkk) ∧ w'.cell? ⟨bk, ok + j, none⟩ = some (.slice akj nkj xkj))
                    (first | exact KD.out | exact ⟨kpB (S := fun _ => True) hb7 _ _ trivial KD.out.1, kpB (S := fun _ => True) hb7 _ _ trivial KD.out.2.1, kpB (S := fun _ => True) hb7 _ _ trivial KD.out.2.2.1, kpB (S := fun _ => True) hb7 _ _ trivial KD.out.2.2.2.1, kpB (S := fun _ => True) hb7 _ _ trivial KD.out.2.2.2.2⟩ | exact ⟨kpB (S := fun _ => True) hb8 _ _ trivial KD.out.1, kpB (S := fun _ => True) hb8 _ _ trivial KD.out.2.1, kpB (S := fun _ => True) hb8 _ _ trivial KD.out.2.2.1, kpB (S := fun _ => True) hb8 _ _ trivial KD.out.2.2.2.1, kpB (S := fun _ => True) hb8 _ _ trivial KD.out.2.2.2.2⟩ | exact ⟨kpB (S := fun _ => True) hb9 _ _ trivial KD.out.1, kpB (S := fun _ => True) hb9 _ _ trivial KD.out.2.1, kpB (S := fun _ => True) hb9 _ _ trivial KD.out.2.2.1, kpB (S := fun _ => True) hb9 _ _ trivial KD.out.2.2.2.1, kpB (S := fun _ => True) hb9 _ _ trivial KD.out.2.2.2.2⟩)
                    (first
                      | (go_at_call 115
                         (with_reducible refine (star_c _ (tabE D K K K) w6.drew HDkk.out HL0.out).mono ?_)
                         rintro e w7 ⟨v7, rfl, hb7, hp7⟩
                         obtain ⟨a7, n7, x7, rfl⟩ := hp7.out.slX)
                      | (go_at_call 114
                         (with_reducible refine (joined_c _ _ (tabE D K i0 K) (tabE D K K K).mkStar w7 (HDik.out.stay hb7) hp7.out HL1.out).mono ?_)
                         rintro e w8 ⟨v8, rfl, hb8', hp8⟩
                         have hb8 := hb7.trans (hb8'.mono hb7.size)
                         obtain ⟨a8, n8, x8, rfl⟩ := hp8.out.slX)
                      | (go_at_call 114
                         (with_reducible refine (joined_c _ _ ((tabE D K i0 K).mkJoin (tabE D K K K).mkStar) (tabE D K K j) w8 hp8.out (HDkj.out.stay hb8) HL2.out).mono ?_)
                         rintro e w9 ⟨v9, rfl, hb9', hp9⟩
                         have hb9 := hb8.trans (hb9'.mono hb8.size)
                         obtain ⟨a9, n9, x9, rfl, hn9'⟩ := hp9.out.slN
                         have hn9 := Lib.hid hn9'
                         clear hn9'))
                  have HN9 : Hid (n9 = (wayE (tabE D K) K i0 j).len) := Lib.hid (by rw [wayE_eq]; exact hn9.out)
                  have HP9 : Hid (PR w9 (.slice a9 n9 x9) (wayE (tabE D K) K i0 j)) := Lib.hid (by rw [wayE_eq]; exact hp9.out)
                  have HDij9 := Lib.hid (HDij.out.stay hb9)
                  have j1 := kpB (S := fun _ => True) hb9 _ _ trivial KI.out.1
                  have j2 := kpB (S := fun _ => True) hb9 _ _ trivial KI.out.2
                  have HB69 : Hid (Below w6.heap.size w6 w9) := Lib.hid ((Below.refl _ _).drew.trans hb9)
                  clear hn9 hp9 hb7 hb8 hb8' hb9 hb9' hp7 hp8 KD KI HDkk HDik HDkj HDij HL0 HL1 HL2
                  go_wp2_with fail
                  refine (either_c _ _ (tabE D K i0 j) (wayE (tabE D K) K i0 j) w9 HDij9.out HP9.out HL3.out).mono ?_
                  rintro e w10 ⟨v10, rfl, hb10, hp10⟩
                  obtain ⟨a10, n10, x10, rfl, hn10⟩ := hp10.out.slN
                  have HN10 : Hid (n10 = (tabE D (K + 1) i0 j).len) := Lib.hid (by rw [tabE_succ]; exact hn10)
                  have HX10 : Hid (PR w10 (.slice a10 n10 x10) (tabE D (K + 1) i0 j)) := Lib.hid (by rw [tabE_succ]; exact hp10.out)
                  have HB610 := Lib.hid (HB69.out.trans (hb10.mono HB69.out.size))
                  have HB10 := Lib.hid (hBk.out.trans (HB610.out.mono hBk.out.size))
                  have HBa := Lib.hid (Hb0.out.trans ((hB.out.trans (HB10.out.mono hB.out.size)).mono Hb0.out.size))
                  clear hn10 hp10 hb10 j1 j2 HDij9 HP9 HB69 HL3
                  rcases Nat.lt_or_ge 60 n9 with hbig | hle
                  · have HA : Hid (o = none) := Lib.hid (HOo.out.trans <| ansE_fit HN.out hlt hil hjl fun h => by have := h.1; have := HN9.out; omega)
                    go_wp2
                    exact bodyPost_ret (results_tmp2 (t := 2) (u := 3) rfl _ _ _) rfl (RXi.no HBa.out HA.out)
                  · rcases Nat.lt_or_ge 60 n10 with hbig2 | hle2
                    · have HA : Hid (o = none) := Lib.hid (HOo.out.trans <| ansE_fit HN.out hlt hil hjl fun h => by have := h.2; have := HN10.out; omega)
                      go_wp2
                      exact bodyPost_ret (results_tmp2 (t := 2) (u := 3) rfl _ _ _) rfl (RXi.no HBa.out HA.out)
                    · have HF9 : Hid (∀ j', j' < j + 1 → fitE D K i0 j') := Lib.hid (fun j' h => by
                        by_cases h' : j' < j
                        · exact hF3.out j' h'
                        · obtain rfl : j' = j := by omega
                          exact ⟨by have := HN9.out; omega, by have := HN10.out; omega⟩)
                      have HP10 := Lib.hid (hP.out.stay HB610.out)
                      obtain ⟨av, cv, csr, hv, ho, hcs⟩ := HP10.out.row
                      have HV := Lib.hid hv
                      have HO := Lib.hid ho
                      have HCs := Lib.hid hcs
                      have hc := (HP10.out.cell hil).1
                      rw [hv] at hc
                      have hz6 : wj ≤ w10.heap.size := HP10.out.sz
                      have hz1 : w3.heap.size ≤ wj := HP10.out.le
                      have hz0 : w3.heap.size ≤ w10.heap.size := Nat.le_trans hz1 hz6
                      have hj9 : j ≤ 1000000000 := by omega
                      clear hv ho hcs hP hBk
                      go_wp2_with (
                        at_builtin
                        refine appOneF elPSe (by decide) rfl (.tmp 105) (.tmp 107) rfl wj (.slice av j cv) j csr [.slice a10 n10 x10] w10 rfl rfl HO.out rfl (by simp [Value.oneCell']) hj9 hz6 ?_
                        intro g8 c8 w11 ho8 hg8 hat8
                        have hg9 := grownTrans (grownBel ((Below.refl _ _).alloc (Nat.le_refl _) _)) hg8
                        obtain ⟨d0, f0⟩ := HP10.out.cellG hil HV.out HO.out hg9
                        have HP11 := Lib.hid (HP10.out.step hil HV.out HO.out HCs.out HX10.out hg9 ho8)
                        have HB11 := Lib.hid ((HB10.out.grown hg9 hz0 (fun b hb => Nat.le_trans hz1 (own_ge HO.out b hb).1)).setCell (p := ⟨w3.heap.size, i0, none⟩) (Nat.le_refl _) (.slice (some ⟨g8, 0, none⟩) (j + 1) c8))
                        clear hg8 hat8)
                      clear d0 f0 hg9 hc
                      go_roundw
                      case rel => exact ⟨j + 1, _, by omega, by go_num, HP11, HB11, HF9⟩
                      case measure => simp [intOf]; omega
                · have hjk : j = k := by omega
                  subst hjk
                  have HT2 := Lib.hid hP.out.fin
                  have HF9 : Hid (∀ i j', i < i0 + 1 → j' < j → fitE D K i j') := Lib.hid (fun i j' hi hj' => by
                    by_cases h' : i < i0
                    · exact hF2.out i j' h' hj'
                    · obtain rfl : i = i0 := by omega
                      exact hF3.out j' hj')
                  clear hP
                  go_wp2
                  go_roundw
                  case rel => exact ⟨i0 + 1, _, by omega, by go_num, HT2, hBk, HF9⟩
                  case measure => simp [intOf]; omega
            · have hik : i0 = k := by omega
              subst hik
              have hT8 := Lib.hid (hE.out.full.base (base' := W.heap.size) hB.out.size)
              have hB8 := Lib.hid (hB.out.trans (hBk.out.mono hB.out.size))
              have hF8 : Hid (∀ k', k' < K + 1 → ∀ i j, i < i0 → j < i0 → fitE D k' i j) := Lib.hid (fun k' hk' i j hi hj => by
                by_cases h : k' < K
                · exact hF.out k' h i j hi hj
                · obtain rfl : k' = K := by omega
                  exact hF2.out i j hi hj)
              clear hT hB hF hE hBk hF2
              go_wp2_with fail
              go_roundw
              case rel => exact ⟨K + 1, _, _, by omega, by go_num, rfl, hT8, hB8, hF8⟩
              case measure => simp [intOf]; omega
        · have hKk' : K = k := by omega
          subst hKk'
          have HLn : Hid (∀ i j, i < K → j < K → (tabE D K i j).len ≤ 60) := Lib.hid (fun i j hi hj => tabE_len hF.out hi hj)
          go_wp2_with fail
          refine (leafR_c 1 .none wr trivial rfl).mono ?_
          rintro e w4 ⟨v4, rfl, hb4, hp4⟩
          obtain ⟨a4, n4, x4, rfl⟩ := hp4.out.slX
          have HT4 := Lib.hid (hT.out.stay hb4)
          have HB4 := Lib.hid (hB.out.trans (hb4.mono hB.out.size))
          have hPO : Hid (PR w4 (.slice a4 n4 x4) (outE D K 0)) := hp4
          obtain ⟨c0, c1, _, _⟩ := blk2 (blkBel HB4.out K0.out)
          have HR4 := Lib.hid (H.out.stay (kpB HB4.out))
          have HBa := Lib.hid (Hb0.out.trans (HB4.out.mono Hb0.out.size))
          clear hb4 hp4 hT hB
          go_wp2_with fail
          go_loopw [14, 118] (fun v c wz => ∃ (q : Nat), q ≤ K ∧ c = .int .i64 q ∧ Hid (PR wz v (outE D K q)) ∧ Hid (Below w4.heap.size w4 wz)) (fun _ c _ => K - (intOf c).toNat)
          case atStart => exact ⟨0, by omega, rfl, hPO, Lib.hid (Below.refl _ _)⟩
          case round =>
            clear hPO c0 c1
            obtain ⟨q, hq, rfl, hPq, hBq⟩ := hrel
            obtain ⟨a2, n2, x2, rfl, hn2⟩ := hPq.out.slN
            have HN2 := Lib.hid hn2
            clear hn2
            by_cases hql : q < K
            · have hqI : (q : Int) < (K : Int) := by omega
              have hqE : q < D.2.length := by rw [HE2.out]; exact hql
              obtain ⟨rbE, roE, rfl, hcE⟩ := ((HR4.out.stay (kpB hBq.out)).2).at hqE
              have HF : Hid (outE D K (q + 1) = if D.2[q] then (outE D K q).mkEither (tabE D K 0 q) else outE D K q) := Lib.hid (by
                show (if D.2.getD q false then _ else _) = _
                rw [List.getD_eq_getElem?_getD, List.getElem?_eq_getElem hqE]; rfl)
              generalize D.2[q] = x at *
              cases x
              · have HP7 : Hid (PR wr (.slice a2 n2 x2) (outE D K (q + 1))) := Lib.hid (by rw [HF.out]; exact hPq.out)
                clear hPq
                go_wp2
                go_roundw
                case rel => exact ⟨q + 1, by omega, by go_num, HP7, hBq⟩
                case measure => simp [intOf]; omega
              · have hT6 := Lib.hid (HT4.out.stay hBq.out)
                obtain ⟨g1, b0, o0, z0, e1, i1, hri⟩ := hT6.out.row h0k h0k
                cases e1
                obtain ⟨aq, nq, xq, iq, hnq, hPt⟩ := hri q hql
                have HPt := Lib.hid hPt
                have hl1 := outE_len HLn.out q (by omega)
                have hl2 := HLn.out 0 q h0k hql
                have HL : Hid ((outE D K q).len + (tabE D K 0 q).len ≤ 1000000) := Lib.hid (by omega)
                clear hri hnq hPt hl1 hl2
                go_wp2_with fail
                refine (either_c _ _ (outE D K q) (tabE D K 0 q) wr hPq.out HPt.out HL.out).mono ?_
                rintro e w7 ⟨v7, rfl, hb7, hp7⟩
                have HB7 := Lib.hid (hBq.out.trans (hb7.mono hBq.out.size))
                have HP7 : Hid (PR w7 v7 (outE D K (q + 1))) := Lib.hid (by rw [HF.out]; exact hp7.out)
                clear hb7 hp7
                go_wp2
                go_roundw
                case rel => exact ⟨q + 1, by omega, by go_num, HP7, HB7⟩
                case measure => simp [intOf]; omega
            · have hqk : q = K := by omega
              subst hqk
              have HBb := Lib.hid (HBa.out.trans (hBq.out.mono HBa.out.size))
              have HFit : Hid (fitsE D q) := Lib.hid (fun k' i j hk hi hj => hF.out k' hk i j hi hj)
              have hl1 := outE_len HLn.out q (Nat.le_refl _)
              have HLc : Hid ((outE D q q).flat.length ≤ 100000000) := Lib.hid (by unfold Re.len at hl1; omega)
              clear hl1
              go_wp2_with fail
              refine (clonePart_c _ _ wr hPq.out.2 HLc.out).mono ?_
              rintro e w9 ⟨v9, rfl, hb9, ho9⟩
              obtain ⟨a9, x9, hsl, _⟩ := (ownFl ho9.out).shape
              obtain ⟨n9, hn9⟩ : ∃ n9, n9 = (outE D q q).flat.length := ⟨_, rfl⟩
              rw [← hn9] at hsl
              subst hsl
              have HO9 := Lib.hid (ownBase ho9.out (base' := w.heap.size) HBb.out.size)
              have HBc := Lib.hid (HBb.out.trans (hb9.mono HBb.out.size))
              clear hn9 ho9 hb9
              rcases Nat.lt_or_ge 60 n2 with hbig | hle
              · have HA : Hid (o = none) := Lib.hid (HOo.out.trans <| ansE_long HN.out (by have := HN2.out; omega))
                have hb6 : ¬ (n2 : Int) ≤ 60 := by omega
                go_wp2
                exact bodyPost_ret (results_tmp2 (t := 2) (u := 3) rfl _ _ _) rfl (RXi.noD (decide_eq_false (by omega)) HBc.out HA.out)
              · have HA : Hid (o = some (outE D q q)) := Lib.hid (HOo.out.trans <| ansE_some HN.out HFit.out (by have := HN2.out; omega))
                have hb6 : (n2 : Int) ≤ 60 := by omega
                go_wp2
                exact bodyPost_ret (results_tmp2 (t := 2) (u := 3) rfl _ _ _) rfl (RXi.yesD rfl HBc.out HO9.out HA.out)
theorem RPw.no {w w' : World} {o : Option Re} (hb : Below w.heap.size w w') (ho : o = none) : RPw w (o.isSome = true) (ansQ o) (.returned (.tuple #[.slice none 0 0, .bool false])) w' :=
  ⟨_, false, rfl, hb, by rw [ho]; exact ⟨nofun, nofun⟩, by rw [ho]; exact World.ownsRow_nil _ _ _ _⟩
theorem RPw.yes {w w' : World} {o : Option Re} {a : Option Addr} {n c : Nat} {t : Re} (hb : Below w.heap.size w w') (hp : OwnP w' w.heap.size (.slice a n c) t.flat) (ho : o = some t) : RPw w (o.isSome = true) (ansQ o) (.returned (.tuple #[.slice a n c, .bool true])) w' :=
  ⟨_, true, rfl, hb, by rw [ho]; exact ⟨fun _ => rfl, fun _ => rfl⟩, by rw [ho]; exact hp⟩
set_option maxHeartbeats 1000000 in
theorem ExprOf_c (vn ve : Value) (D : DfaD) (w : World) (h : DfaR S w vn ve D) : Calls Try.prog 28 #[.agg #[vn, ve]] w (RPw w ((ansO D).isSome = true) (ansQ (ansO D))) := by
  obtain ⟨a, ca, b, d, rfl, rfl, hn, hm⟩ := h.shapes
  obtain ⟨W, hW⟩ : ∃ W, W = w.alloc (.cells #[.slice a D.1.length ca, .slice b D.2.length d] 52) := ⟨_, rfl⟩
  have Hb0 : Hid (Below w.heap.size w W) := by rw [hW]; exact (Below.refl _ _).alloc (Nat.le_refl _) _
  have K0 : Hid (W.heap[w.heap.size]? = some (.cells #[.slice a D.1.length ca, .slice b D.2.length d] 52 (0, 0))) := by rw [hW]; exact blkNew _ _ rfl
  have H := Lib.hid (h.stay (kpB Hb0.out)); clear h
  have HW := Lib.hid hW; clear hW
  go_enter Try.func28, Try.ntmps28
  go_wp2_with fail
  rw [← HW.out]
  refine (DfaValid_c _ _ D W H.out).mono ?_
  rintro e w1 ⟨b1, rfl, hb1, hv⟩
  have H1 := Lib.hid (H.out.stay (kpB hb1))
  obtain ⟨c0, c1, _, _⟩ := blk2 (blkBel hb1 K0.out)
  have HB1 := Lib.hid (Hb0.out.trans (hb1.mono Hb0.out.size))
  clear hb1 H K0 Hb0 HW
  cases b1
  · have hno := Lib.hid (hbF hv)
    clear hv c0 c1
    go_wp2
    exact bodyPost_ret (results_tmp2 (t := 2) (u := 3) rfl _ _ _) rfl (RPw.no HB1.out (ansO_no hno.out))
  have hyes := Lib.hid (hbT hv)
  have HO : Hid (ansO D = ansE (canon (lgD D))) := Lib.hid (ansO_yes hyes.out)
  clear hv
  go_wp2_with fail
  refine (minimize_c _ _ D w1 H1.out hyes.out).mono ?_
  rintro e w2 ⟨vn2, ve2, rfl, hb2, hd2⟩
  have HR2 := Lib.hid hd2.out.rd
  have HB2 := Lib.hid (HB1.out.trans (hb2.mono HB1.out.size))
  have HC := Lib.hid (canon_ok hyes.out)
  obtain ⟨D2, hD2⟩ : ∃ D2, D2 = canon (lgD D) := ⟨_, rfl⟩
  rw [← hD2] at HR2 HC HO
  obtain ⟨aN, cN, aE, cE, rfl, rfl, _, _⟩ := HR2.out.shapes
  clear hd2 hb2 hD2 H1 HB1 c0 c1
  go_wp2_with fail
  refine (exprOf_c _ _ D2 w2 HR2.out HC.out).mono ?_
  rintro e w3 ⟨v3, b3, rfl, hb3, hs3, hp3, hv3⟩
  obtain ⟨a3, n3, x3, rfl⟩ := hv3.out
  have HB3 := Lib.hid (HB2.out.trans (hb3.mono HB2.out.size))
  have HZ := HB2.out.size
  rcases hA : ansE D2 with _ | t
  · obtain rfl : b3 = false := by rw [hs3.out, hA]; rfl
    have HN : Hid (ansO D = none) := Lib.hid (by rw [HO.out, hA])
    clear hs3 hp3 hv3 hb3 hA
    go_wp2
    exact bodyPost_ret (results_tmp2 (t := 2) (u := 3) rfl _ _ _) rfl (RPw.no HB3.out HN.out)
  · obtain rfl : b3 = true := by rw [hs3.out, hA]; rfl
    have HN : Hid (ansO D = some t) := Lib.hid (by rw [HO.out, hA])
    have HP := Lib.hid (ownBase (hp3.out t hA) (base' := w.heap.size) HZ)
    clear hs3 hp3 hv3 hb3 hA HZ
    go_wp2
    exact bodyPost_ret (results_tmp2 (t := 2) (u := 3) rfl _ _ _) rfl (RPw.yes HB3.out HP.out HN.out)
end Go.Proofs.Ytbcjhiponbfbnaa
