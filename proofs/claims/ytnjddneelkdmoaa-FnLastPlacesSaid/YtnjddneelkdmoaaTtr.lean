/- Expressions turned round: the program's TurnExpr. -/
import Derived.Deep.RegionLaw
import Derived.Deep.RegionHeld3
import Derived.Test.YtnjddneelkdmoaaTre
import Derived.Test.YtnjddneelkdmoaaEdg
set_option linter.unusedSimpArgs false
set_option linter.unusedVariables false
set_option linter.unusedSectionVars false
namespace Go.Proofs.Ytnjddneelkdmoaa
open Go.RowKit
set_option maxRecDepth 100000
variable {S T : Nat → Prop}
/-- A list of expressions in a row of its own, read outside of its block. -/
def Tus (w : World) (base g : Nat) (vo : Value) (n : Nat) (L : List (List (Int × Int))) : Prop :=
  ∃ cs : List Value, w.ownsRow base 23 1 vo n cs ∧ ∀ j (h : j < cs.length), Pairs (· ≠ g) w cs[j] (L.getD j [])
theorem Tus.stay {w w' : World} {base g n : Nat} {vo : Value} {L : List (List (Int × Int))} (h : Tus w base g vo n L) (k : Below w.heap.size w w') : Tus w' base g vo n L :=
  let ⟨cs, a, b⟩ := h; ⟨cs, ownStay a k, fun j hj => (b j hj).stay (kpB k)⟩
theorem Tus.at {w : World} {base g n c : Nat} {L : List (List (Int × Int))} (h : Tus w base g (.slice (some ⟨g, 0, none⟩) n c) n L) {k : Nat} (hk : k < n) :
    ∃ ad cap, w.cell? ⟨g, k, none⟩ = some (.slice ad (L.getD k []).length cap) ∧ w.frozen? ⟨g, k, none⟩ = false ∧ Pairs (· ≠ g) w (.slice ad (L.getD k []).length cap) (L.getD k []) := by
  obtain ⟨cs, a, b⟩ := h
  have hl : cs.length = n := by have := a.1; omega
  have hp := b k (by omega)
  obtain ⟨ad, cap, e, _⟩ := hp.shape
  refine ⟨ad, cap, ?_, a.frozenAt k, by rw [← e]; exact hp⟩
  rw [a.cellAt k (by omega), List.getElem?_eq_getElem (by omega), e]
theorem Tus.put {w : World} {base g n c : Nat} {L : List (List (Int × Int))} (h : Tus w base g (.slice (some ⟨g, 0, none⟩) n c) n L) {k : Nat} {u : Value} {l : List (Int × Int)} (hp : Pairs (· ≠ g) w u l) (hk : k < L.length) :
    Tus (w.setCell ⟨g, k, none⟩ u) base g (.slice (some ⟨g, 0, none⟩) n c) n (L.set k l) := by
  obtain ⟨cs, a, b⟩ := h
  obtain ⟨a1, a2⟩ := a.stored k u
  have hkp : Kp (· ≠ g) w (w.setCell ⟨g, k, none⟩ u) := (kpG a2).mono (fun x hx e => by cases e; exact hx rfl)
  refine ⟨_, a1, fun j hj => ?_⟩
  rw [List.length_set] at hj
  rw [List.getElem_set, List.getD_eq_getElem?_getD, List.getElem?_set]
  by_cases he : k = j
  · subst he
    rw [if_pos rfl, if_pos rfl, if_pos hk]
    exact hp.stay hkp
  · rw [if_neg he, if_neg he, ← List.getD_eq_getElem?_getD]
    exact (b j hj).stay hkp
theorem Tus.nest {w : World} {base g n : Nat} {vo : Value} {L : List (List (Int × Int))} (h : Tus w base g vo n L) (hl : L.length = n) : Nest (fun w v x => Pairs (fun _ => True) w v x) (fun _ => True) w vo L := by
  obtain ⟨cs, a, b⟩ := h
  have hc : cs.length = n := by have := a.1; omega
  refine ⟨cs, by rw [hl]; exact (ownFl a).fl.mono (fun _ _ => trivial), by omega, fun i hi => ?_⟩
  have := (b i (by omega)).mono (T := fun _ => True) (fun _ _ => trivial)
  rw [List.getD_eq_getElem?_getD, List.getElem?_eq_getElem hi] at this
  rw [List.getD_eq_getElem?_getD, List.getElem?_eq_getElem (by omega)]
  exact this
theorem Tus.size {w : World} {base g n : Nat} {vo : Value} {L : List (List (Int × Int))} (h : Tus w base g vo n L) (hn : 0 < n) (hg : vo.ownBlock = some g) : base ≤ g ∧ g < w.heap.size := let ⟨_, a, _⟩ := h; own_ge a g hg
theorem tsStep {xs ys : List (List (Int × Int))} {k : Nat} (h1 : k < xs.length) (h2 : xs.length = ys.length) : (ys.take k ++ xs.drop k).set k (ys.getD k []) = ys.take (k + 1) ++ xs.drop (k + 1) := by
  apply List.ext_getElem?
  intro j
  rw [List.getElem?_set]
  have hl : (ys.take k).length = k := by rw [List.length_take]; omega
  have hl' : (ys.take (k + 1)).length = k + 1 := by rw [List.length_take]; omega
  by_cases e : k = j
  · subst e
    rw [if_pos rfl, if_pos (by simp; omega), List.getElem?_append_left (by omega), List.getElem?_take, if_pos (by omega), List.getD_eq_getElem?_getD, List.getElem?_eq_getElem (by omega)]
    rfl
  · rw [if_neg e]
    by_cases hlt : j < k
    · rw [List.getElem?_append_left (by omega), List.getElem?_append_left (by omega), List.getElem?_take, List.getElem?_take, if_pos hlt, if_pos (by omega)]
    · rw [List.getElem?_append_right (by omega), List.getElem?_append_right (by omega), List.getElem?_drop, List.getElem?_drop]
      congr 1; omega
theorem tsAt {xs ys : List (List (Int × Int))} {k : Nat} (h1 : k < xs.length) (h2 : xs.length = ys.length) : (ys.take k ++ xs.drop k).getD k [] = xs.getD k [] := by
  have hl : (ys.take k).length = k := by rw [List.length_take]; omega
  rw [List.getD_eq_getElem?_getD, List.getElem?_append_right (by omega), List.getElem?_drop, List.getD_eq_getElem?_getD]
  congr 2; omega
theorem lastC2 {e0 : List (Int × Int)} {x y : Int} {ad : Option Addr} {n cap : Nat} {w : World} (h : Pairs S w (.slice ad n cap) (e0 ++ [(x, y)])) : ∃ b off, ad = some ⟨b, off, none⟩ ∧ ∀ w', Below w.heap.size w w' → w'.cell? ⟨b, off + e0.length * 2, none⟩ = some (.int .i64 x) ∧ w'.cell? ⟨b, off + e0.length * 2 + 1, none⟩ = some (.int .i64 y) := by
  obtain ⟨b, off, rfl, _, _⟩ := h.at (k := e0.length) (by simp)
  refine ⟨b, off, rfl, fun w' hb => ?_⟩
  obtain ⟨b', off', e, c0, c1⟩ := (h.stay (kpB hb)).at (k := e0.length) (by simp)
  cases e
  rw [List.getElem_concat_length rfl] at c0 c1
  exact ⟨c0, c1⟩
set_option maxHeartbeats 4000000 in
theorem turned_gen (n : Nat) (xs ys zs : List (List (Int × Int))) (x y : Int) (e0 : List (Int × Int)) (hn : xs.length = n) (hn2 : ys.length = n) (hn3 : n ≤ 2) (h4 : x = 4 → n = 2) (hz : zs = if x = 4 then ys.reverse else ys) (hzs : (zs.map List.length).sum ≤ 1000) (hl60 : e0.length ≤ 1000)
    (hop : ∀ (T : Nat → Prop) (w : World) (v : Value), Pairs T w v (e0 ++ [(x, y)]) → Calls Try.prog 155 #[v] w (RVn w fun vo w' => ∃ cs : List Value, w'.ownsRow w.heap.size 23 1 vo n cs ∧ ∀ j (h : j < cs.length), Pairs T w' cs[j] (xs.getD j [])))
    (hrec : ∀ j, j < n → ∀ (T : Nat → Prop) (w : World) (v : Value), Pairs T w v (xs.getD j []) → Calls Try.prog 95 #[v] w (RVn w fun v w' => OwnP w' w.heap.size v (ys.getD j [])))
    (v : Value) (w : World) (h : Pairs S w v (e0 ++ [(x, y)])) : Calls Try.prog 95 #[v] w (RVn w fun v w' => OwnP w' w.heap.size v (zs.flatten ++ [(x, y)])) := by
  obtain ⟨ad, cap, hv, _⟩ := h.shape
  rw [List.length_append, List.length_singleton] at hv
  subst hv
  obtain ⟨b, off, rfl, hC⟩ := lastC2 h
  have HC := Lib.hid hC; clear hC
  have HI := Lib.hid h.inHeap
  have HOP := Lib.hid (hop (fun b => S b ∧ b < w.heap.size) w _ h.inHeap)
  have HRC := Lib.hid hrec; have HSM := Lib.hid hzs
  have HX := Lib.hid hn; have HY := Lib.hid hn2; have HZ := Lib.hid hz; have H4 := Lib.hid h4
  have HZL : Hid (zs.length = n) := Lib.hid (by rw [hz]; split <;> simp [hn2])
  have HLF : Hid (zs.flatten.length ≤ 1000000000) := Lib.hid (by rw [List.length_flatten]; omega)
  obtain ⟨m, hm⟩ : ∃ m, m = e0.length := ⟨_, rfl⟩
  rw [← hm] at HC HI HOP hl60 ⊢
  obtain ⟨Z, hZF⟩ : ∃ Z, Z = zs.flatten := ⟨_, rfl⟩
  rw [← hZF] at HLF ⊢
  have HZF := Lib.hid hZF
  clear hZF h hop hrec hzs hn hn2 hz h4 hm
  go_enter Try.func95, Try.ntmps95
  obtain ⟨c0, c1⟩ := HC.out w (Below.refl _ _)
  go_wp2_with fail
  refine HOP.out.mono ?_
  rintro e w1 ⟨vo, rfl, hb1, hcs⟩
  obtain ⟨cs, hrow, hps⟩ := hcs.out
  clear hcs c0 c1
  obtain ⟨g, hg⟩ : ∃ g, w.heap.size ≤ g ∧ ((n = 0 ∧ vo = .slice none 0 0) ∨ ∃ c, vo = .slice (some ⟨g, 0, none⟩) n c) := by
    rcases hrow.2 with ⟨h1, h2⟩ | ⟨g, c, cur, h1, h2, _⟩
    · exact ⟨w.heap.size, Nat.le_refl _, .inl ⟨h2, h1⟩⟩
    · exact ⟨g, h2, .inr ⟨c, h1⟩⟩
  have HT1 : Hid (Tus w1 w.heap.size g vo n xs) := Lib.hid ⟨cs, hrow, fun j hj => (hps j hj).mono (fun b hb e => by have := hb.2; have := hg.1; omega)⟩
  have hgw := hg.1
  obtain ⟨ao, co, rfl, HAO⟩ : ∃ ao co, vo = .slice ao n co ∧ Hid (0 < n → ao = some ⟨g, 0, none⟩) := by
    rcases hg.2 with ⟨rfl, rfl⟩ | ⟨c, rfl⟩
    · exact ⟨none, 0, rfl, fun h => absurd h (Nat.lt_irrefl _)⟩
    · exact ⟨_, c, rfl, fun _ => rfl⟩
  have HB1 := Lib.hid hb1
  clear hrow hps hg hb1
  go_wp2_with fail
  go_loopw [18] (fun i wr => ∃ k : Nat, k ≤ n ∧ i = .int .i64 k ∧ Hid (Below w.heap.size w wr) ∧ Hid (Tus wr w.heap.size g (.slice ao n co) n (ys.take k ++ xs.drop k))) (fun i _ => n - (intOf i).toNat)
  case atStart => exact ⟨0, by omega, rfl, HB1.out, by rw [List.take_zero, List.drop_zero, List.nil_append]; exact HT1.out⟩
  case round =>
    obtain ⟨k, hk, rfl, HB, HT⟩ := hrel
    generalize wr = wq at *
    clear HT1 HB1
    by_cases hlt : k < n
    · obtain rfl := HAO.out (by omega)
      obtain ⟨ap, cp, k0, f0, hp⟩ := HT.out.at hlt
      rw [tsAt (by rw [HX.out]; exact hlt) (by rw [HX.out, HY.out])] at k0 hp
      have hkI : (k : Int) < (n : Int) := by omega
      have HP := Lib.hid hp; clear hp
      have HCX := Lib.hid (HRC.out k hlt (· ≠ g) wq _ HP.out)
      generalize (xs.getD k []).length = lx at *
      clear HP
      go_wp2_with fail
      refine HCX.out.mono ?_
      rintro e w2 ⟨v2, rfl, hb2, ho2⟩
      obtain ⟨a2, cap2, rfl, _⟩ := ho2.out.rd.shape
      obtain ⟨v2, hv2⟩ : ∃ v2, v2 = Value.slice a2 (ys.getD k []).length cap2 := ⟨_, rfl⟩
      rw [← hv2] at ho2
      have hb3 := HB.out.size
      have HT2 := Lib.hid (HT.out.stay hb2)
      have HB2 := Lib.hid (HB.out.trans (hb2.mono hb3))
      have hgq := (HT.out.size (by omega) rfl).2
      obtain ⟨_, _, k2, f2, _⟩ := HT2.out.at hlt
      have hpp : Pairs (· ≠ g) w2 v2 (ys.getD k []) := ho2.out.rd.mono (fun b hb e => by subst e; exact absurd hb (by omega))
      have HT3 := Lib.hid (HT2.out.put (k := k) hpp (by simp [HX.out, HY.out]; omega))
      rw [tsStep (by rw [HX.out]; exact hlt) (by rw [HX.out, HY.out])] at HT3
      have HB3 := Lib.hid (HB2.out.setCell (p := ⟨g, k, none⟩) (by exact hgw) v2)
      rw [hv2] at HT3 HB3
      generalize (ys.getD k []).length = ly at *
      clear ho2 hpp HT2 HB2 HCX k0 f0 hv2
      go_wp2
      go_roundw
      case rel => exact ⟨k + 1, by omega, by go_num, HB3, HT3⟩
      case measure => simp [intOf]; omega
    · obtain rfl : k = n := by omega
      have hnn : ¬ ((k : Int) < (k : Int)) := by omega
      rw [List.take_of_length_le (Nat.le_of_eq HY.out), List.drop_of_length_le (Nat.le_of_eq HX.out), List.append_nil] at HT
      clear HRC HOP HI
      by_cases hx4 : x = 4
      · obtain rfl := H4.out hx4
        obtain rfl := HAO.out (by omega)
        obtain ⟨y0, y1, rfl⟩ : ∃ y0 y1, ys = [y0, y1] := by
          have := HY.out
          match ys, this with
          | [a, b], _ => exact ⟨a, b, rfl⟩
        obtain rfl : zs = [y1, y0] := by rw [HZ.out, if_pos hx4]; rfl
        obtain ⟨p0, q0, k0, f0, hp0⟩ := HT.out.at (k := 0) (by omega)
        obtain ⟨p1, q1, k1, f1, hp1⟩ := HT.out.at (k := 1) (by omega)
        have hp0' : Pairs (· ≠ g) wq (.slice p0 ([y0, y1].getD 0 []).length q0) y0 := hp0
        have hp1' : Pairs (· ≠ g) wq (.slice p1 ([y0, y1].getD 1 []).length q1) y1 := hp1
        clear hp0 hp1
        generalize ([y0, y1].getD 0 []).length = l0 at k0 hp0'
        generalize ([y0, y1].getD 1 []).length = l1 at k1 hp1'
        obtain ⟨w5, hw5⟩ : ∃ z, z = ((wq.setCell ⟨g, 0, none⟩ (.slice p1 l1 q1)).setCell ⟨g, 1, none⟩ (.slice p0 l0 q0)).drew := ⟨_, rfl⟩
        obtain ⟨w6, hw6⟩ : ∃ z, z = ((wq.setCell ⟨g, 1, none⟩ (.slice p0 l0 q0)).setCell ⟨g, 0, none⟩ (.slice p1 l1 q1)).drew := ⟨_, rfl⟩
        have kpS : ∀ (u : Value) (k : Nat), Kp (· ≠ g) wq (wq.setCell ⟨g, k, none⟩ u) := fun u k => (kpG (grownSet _ _ _ _)).mono (fun x hx e => by cases e; exact hx rfl)
        have HT5 : Hid (Tus w5 w.heap.size g (.slice (some ⟨g, 0, none⟩) 2 co) 2 [y1, y0]) := Lib.hid (by
          rw [hw5]
          exact ((HT.out.put (k := 0) hp1' (by simp)).put (k := 1) (hp0'.stay (kpS _ _)) (by simp)).stay (Below.refl _ _).drew)
        have HT6 : Hid (Tus w6 w.heap.size g (.slice (some ⟨g, 0, none⟩) 2 co) 2 [y1, y0]) := Lib.hid (by
          rw [hw6]
          exact ((HT.out.put (k := 1) hp0' (by simp)).put (k := 0) (hp1'.stay (kpS _ _)) (by simp)).stay (Below.refl _ _).drew)
        have HB5 : Hid (Below w.heap.size w w5) := Lib.hid (by rw [hw5]; exact ((HB.out.setCell (p := ⟨g, 0, none⟩) (by exact hgw) (.slice p1 l1 q1)).setCell (p := ⟨g, 1, none⟩) (by exact hgw) (.slice p0 l0 q0)).drew)
        have HB6 : Hid (Below w.heap.size w w6) := Lib.hid (by rw [hw6]; exact ((HB.out.setCell (p := ⟨g, 1, none⟩) (by exact hgw) (.slice p0 l0 q0)).setCell (p := ⟨g, 0, none⟩) (by exact hgw) (.slice p1 l1 q1)).drew)
        have t01 : (wq.setCell ⟨g, 0, none⟩ (.slice p1 l1 q1)).frozen? ⟨g, 1, none⟩ = false := ((HT.out.put (k := 0) hp1' (by simp)).at (k := 1) (by omega)).choose_spec.choose_spec.2.1
        have t10 : (wq.setCell ⟨g, 1, none⟩ (.slice p0 l0 q0)).frozen? ⟨g, 0, none⟩ = false := ((HT.out.put (k := 1) hp0' (by simp)).at (k := 0) (by omega)).choose_spec.choose_spec.2.1
        obtain ⟨_, _, s01, _⟩ := (HT.out.put (k := 0) hp1' (by simp)).at (k := 1) (by omega)
        obtain ⟨_, _, s10, _⟩ := (HT.out.put (k := 1) hp0' (by simp)).at (k := 0) (by omega)
        have HW5 := Lib.hid hw5; have HW6 := Lib.hid hw6
        subst hx4
        clear hw5 hw6 kpS HT HB hp0' hp1' HZ H4 HX HY HZL
        have HZL : Hid (([y1, y0] : List (List (Int × Int))).length = 2) := Lib.hid rfl
        go_wp2_with fail
        go_region
        all_goals (
          first
          | (rw [← HW5.out]
             have HT := HT5; have HB := HB5
             clear HT6 HB6 HW5 HW6 HT5 HB5 w6)
          | (rw [← HW6.out]
             have HT := HT6; have HB := HB6
             clear HT5 HB5 HW5 HW6 HT6 HB6 w5
             rename World => w5)
          clear k0 f0 k1 f1 t01 t10 s01 s10
          have HNA := Lib.hid ((HT.out.stay (Below.refl _ _).drew).nest HZL.out)
          have HNB := Lib.hid (((HT.out.stay (Below.refl _ _).drew).stay (Below.alloc (Below.refl _ _) (Nat.le_refl _) (.cells #[.int .i64 4, .int .i64 y] 52))).nest HZL.out)
          have HBA := Lib.hid HB.out.drew
          have hsz := HB.out.size
          have HBB := Lib.hid (HBA.out.alloc (by exact hsz) (.cells #[.int .i64 4, .int .i64 y] 52))
          obtain ⟨ca0, ca1⟩ := HC.out _ HBA.out
          have hwm : IntKind.i64.wrap (m : Int) = (m : Int) := IntWalk.i64_in _ (by omega)
          have hwm2 : (m : Int) < (m : Int) + 1 := by omega
          go_wp2_with fail
          go_region_law
            (first
             | (refine stepAppAt elPart (by decide) rfl (.tmp 42) (.tmp 49) rfl w.heap.size _ Z.length (cells2 Z) [.int .i64 4, .int .i64 y] _ w7.heap.size rfl rfl (HO7.out.alloc _) (by exact blkNew _ _ rfl) rfl (by simp [Value.oneCell']) HLF.out (by simp; omega) ?_
                intro g8 cap8 w8 ho8 hg8 hat8
                have hg9 := grownTrans (grownBel ((Below.refl _ _).alloc (Nat.le_refl _) _)) hg8
                have HR8 : Hid (RVn w (fun v w' => OwnP w' w.heap.size v (Z ++ [(4, y)])) (.returned (.slice (some ⟨g8, 0, none⟩) (Z.length + 1) cap8)) w8) := Lib.hid (RVn.mk (HB7.out.grown hg9 hs7 (fun b hb => (own_ge HO7.out b hb).1)) (by unfold OwnP; rw [cells2_app, List.length_append]; exact ho8.out)))
             | (refine stepAppAt elPart (by decide) rfl (.tmp 42) (.tmp 49) rfl w.heap.size _ Z.length (cells2 Z) [.int .i64 4, .int .i64 y] _ w5.heap.size rfl rfl HO7.out HBL.out rfl (by simp [Value.oneCell']) HLF.out (by omega) ?_
                intro g8 cap8 w8 ho8 hg8 hat8
                have HR8 : Hid (RVn w (fun v w' => OwnP w' w.heap.size v (Z ++ [(4, y)])) (.returned (.slice (some ⟨g8, 0, none⟩) (Z.length + 1) cap8)) w8) := Lib.hid (RVn.mk (HB7.out.grown hg8 hs7 (fun b hb => (own_ge HO7.out b hb).1)) (by unfold OwnP; rw [cells2_app, List.length_append]; exact ho8.out)))
             | (go_simp
                refine (concatPart_c (S := fun _ => True) _ _ w5.drew HNA.out (fun _ _ _ h => h) (fun _ _ _ _ h k => h.stay k) (by have := HSM.out; omega)).mono ?_
                rintro e w7 ⟨v7, rfl, hb7, ho7⟩
                rw [← HZF.out] at ho7
                obtain ⟨a7, cap7, rfl, _⟩ := (ownFl ho7.out).shape
                have HO7 := Lib.hid (ownBase ho7.out (base' := w.heap.size) hsz)
                have HB7 := Lib.hid (HBA.out.trans (hb7.mono hsz))
                have hs7 := HB7.out.size
                obtain ⟨cb0, cb1⟩ := HC.out _ HB7.out)
             | (go_simp
                refine (concatPart_c (S := fun _ => True) _ _ (w5.drew.alloc (.cells #[.int .i64 4, .int .i64 y] 52)) HNB.out (fun _ _ _ h => h) (fun _ _ _ _ h k => h.stay k) (by have := HSM.out; omega)).mono ?_
                rintro e w7 ⟨v7, rfl, hb7, ho7⟩
                rw [← HZF.out] at ho7
                obtain ⟨a7, cap7, rfl, _⟩ := (ownFl ho7.out).shape
                have HO7 := Lib.hid (ownBase ho7.out (base' := w.heap.size) (HBB.out.size))
                have HB7 := Lib.hid (HBB.out.trans (hb7.mono HBB.out.size))
                have hs7 := HB7.out.size
                have HBL := Lib.hid (blkBel hb7 (blkNew w5.drew (.cells #[.int .i64 4, .int .i64 y] 52) rfl))
                obtain ⟨cb0, cb1⟩ := HC.out _ HB7.out))
          all_goals (
            go_wp2
            go_ret
            exact HR8.out))
      · obtain rfl : zs = ys := by rw [HZ.out, if_neg hx4]
        clear HZ H4 HX HY HAO
        have HNA := Lib.hid ((HT.out.stay (Below.refl _ _).drew).nest HZL.out)
        have HNB := Lib.hid (((HT.out.stay (Below.refl _ _).drew).stay (Below.alloc (Below.refl _ _) (Nat.le_refl _) (.cells #[.int .i64 x, .int .i64 y] 52))).nest HZL.out)
        have HBA := Lib.hid HB.out.drew
        have hsz := HB.out.size
        have HBB := Lib.hid (HBA.out.alloc (by exact hsz) (.cells #[.int .i64 x, .int .i64 y] 52))
        obtain ⟨ca0, ca1⟩ := HC.out _ HBA.out
        have hwm : IntKind.i64.wrap (m : Int) = (m : Int) := IntWalk.i64_in _ (by omega)
        have hwm2 : (m : Int) < (m : Int) + 1 := by omega
        go_wp2_with fail
        go_region_law
          (first
           | (refine stepAppAt elPart (by decide) rfl (.tmp 42) (.tmp 49) rfl w.heap.size _ Z.length (cells2 Z) [.int .i64 x, .int .i64 y] _ w7.heap.size rfl rfl (HO7.out.alloc _) (by exact blkNew _ _ rfl) rfl (by simp [Value.oneCell']) HLF.out (by simp; omega) ?_
              intro g8 cap8 w8 ho8 hg8 hat8
              have hg9 := grownTrans (grownBel ((Below.refl _ _).alloc (Nat.le_refl _) _)) hg8
              have HR8 : Hid (RVn w (fun v w' => OwnP w' w.heap.size v (Z ++ [(x, y)])) (.returned (.slice (some ⟨g8, 0, none⟩) (Z.length + 1) cap8)) w8) := Lib.hid (RVn.mk (HB7.out.grown hg9 hs7 (fun b hb => (own_ge HO7.out b hb).1)) (by unfold OwnP; rw [cells2_app, List.length_append]; exact ho8.out)))
           | (refine stepAppAt elPart (by decide) rfl (.tmp 42) (.tmp 49) rfl w.heap.size _ Z.length (cells2 Z) [.int .i64 x, .int .i64 y] _ wq.heap.size rfl rfl HO7.out HBL.out rfl (by simp [Value.oneCell']) HLF.out (by omega) ?_
              intro g8 cap8 w8 ho8 hg8 hat8
              have HR8 : Hid (RVn w (fun v w' => OwnP w' w.heap.size v (Z ++ [(x, y)])) (.returned (.slice (some ⟨g8, 0, none⟩) (Z.length + 1) cap8)) w8) := Lib.hid (RVn.mk (HB7.out.grown hg8 hs7 (fun b hb => (own_ge HO7.out b hb).1)) (by unfold OwnP; rw [cells2_app, List.length_append]; exact ho8.out)))
           | (go_simp
              refine (concatPart_c (S := fun _ => True) _ _ wq.drew HNA.out (fun _ _ _ h => h) (fun _ _ _ _ h k => h.stay k) (by have := HSM.out; omega)).mono ?_
              rintro e w7 ⟨v7, rfl, hb7, ho7⟩
              rw [← HZF.out] at ho7
              obtain ⟨a7, cap7, rfl, _⟩ := (ownFl ho7.out).shape
              have HO7 := Lib.hid (ownBase ho7.out (base' := w.heap.size) hsz)
              have HB7 := Lib.hid (HBA.out.trans (hb7.mono hsz))
              have hs7 := HB7.out.size
              obtain ⟨cb0, cb1⟩ := HC.out _ HB7.out)
           | (go_simp
              refine (concatPart_c (S := fun _ => True) _ _ (wq.drew.alloc (.cells #[.int .i64 x, .int .i64 y] 52)) HNB.out (fun _ _ _ h => h) (fun _ _ _ _ h k => h.stay k) (by have := HSM.out; omega)).mono ?_
              rintro e w7 ⟨v7, rfl, hb7, ho7⟩
              rw [← HZF.out] at ho7
              obtain ⟨a7, cap7, rfl, _⟩ := (ownFl ho7.out).shape
              have HO7 := Lib.hid (ownBase ho7.out (base' := w.heap.size) (HBB.out.size))
              have HB7 := Lib.hid (HBB.out.trans (hb7.mono HBB.out.size))
              have hs7 := HB7.out.size
              have HBL := Lib.hid (blkBel hb7 (blkNew wq.drew (.cells #[.int .i64 x, .int .i64 y] 52) rfl))
              obtain ⟨cb0, cb1⟩ := HC.out _ HB7.out))
        all_goals (
          go_wp2
          go_ret
          exact HR8.out)
end Go.Proofs.Ytnjddneelkdmoaa
